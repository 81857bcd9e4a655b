/- The functions of this group answer so. -/
import Derived.Test.YtjbdabpjepjohaaFwCarctlSV
import Derived.Test.YtjbdabpjepjohaaFwStopsM
set_option linter.unusedVariables false
set_option linter.unusedSimpArgs false
set_option maxRecDepth 20000
set_option maxHeartbeats 4000000
namespace Go.Proofs.Ytjbdabpjepjohaa
open Lw
attribute [local irreducible] Lw.vc Lw.vcFunc
def inF (s : Lw.Stops) (F : Int) : Prop := ∀ g, anyB s g = true → g < F
def juC (s : Lw.Stops) (f w j : Int) : Prop := j = f → hasB s.press f = false ∧ hallB s f w = false
def levC (s : Lw.Stops) (f w j : Int) : Nat → Prop
  | 0 => (w = 1 ∨ w = 2) ∧ juC s f w j ∧ onesI s ≤ 2 ∧ (j ≠ f → anyB s f = true ∨ aheadB s f w = true)
  | 1 => (w = 1 ∨ w = 2) ∧ juC s f w j ∧ behP s f w ∧ oppP s f w
  | 2 => (w = 1 ∨ w = 2) ∧ juC s f w j ∧ behP s f w
  | 3 => (w = 1 ∨ w = 2) ∧ juC s f w j
  | _ => True
def endF (F f w : Int) : Int := if w = 1 then F - 1 - f else if w = 2 then f else 0
def phiC (F C : Int) (s : Lw.Stops) (f w j : Int) : Nat → Int
  | 0 => C * onesI s + 4 * F * onesI s + 4 * (if j = f then F - 1 else endF F f w)
  | 1 => C * onesI s + 12 * F + 4 * endF F f w
  | 2 => C * onesI s + 16 * F + 4 * endF F f w
  | 3 => C * onesI s + 20 * F + 4 * endF F f w
  | _ => C * onesI s + 24 * F
theorem nextF_range {w F : Int} (hw : w = 1 ∨ w = 2) {f k : Int} (hf : 0 ≤ f ∧ f < F) (hk : 0 ≤ k ∧ k < F) (h : ltW w f k) : (0 ≤ nextF f w ∧ nextF f w < F) ∧ endF F (nextF f w) w = endF F f w - 1 ∧ endF F (nextF f w) w ≤ F - 2 := by
  unfold ltW nextF endF at *
  rcases hw with rfl | rfl <;> simp at * <;> omega
theorem endF_range {F f : Int} (w : Int) (hf : 0 ≤ f ∧ f < F) : 0 ≤ endF F f w ∧ endF F f w ≤ F - 1 := by
  unfold endF; (repeat' split) <;> omega
theorem mul_less {C a b : Int} (hC : 0 ≤ C) (h : a < b) : C * a + C ≤ C * b := by
  have := Int.mul_le_mul_of_nonneg_left (show a + 1 ≤ b by omega) hC
  rw [Int.mul_add, Int.mul_one] at this
  exact this
theorem phiC_pos {F C : Int} {s : Lw.Stops} {f w j : Int} (hF : 2 ≤ F) (hC : 0 ≤ C) (hf : 0 ≤ f ∧ f < F) : ∀ L, 0 ≤ phiC F C s f w j L := by
  have ho := (onesI_range s).1
  have he := endF_range w hf
  have m1 := Int.mul_nonneg hC ho
  have m2 := Int.mul_nonneg (show 0 ≤ 4 * F by omega) ho
  intro L
  match L with
  | 0 => show 0 ≤ C * onesI s + 4 * F * onesI s + 4 * (if j = f then F - 1 else endF F f w); split <;> omega
  | 1 => show 0 ≤ C * onesI s + 12 * F + 4 * endF F f w; omega
  | 2 => show 0 ≤ C * onesI s + 16 * F + 4 * endF F f w; omega
  | 3 => show 0 ≤ C * onesI s + 20 * F + 4 * endF F f w; omega
  | n + 4 => show 0 ≤ C * onesI s + 24 * F; omega
theorem lev_C {s : Lw.Stops} {f w j : Int} {L : Nat} (h : levC s f w j L) : (L = 0 ∨ L = 1 ∨ L = 2 ∨ L = 3) ∧ (w = 1 ∨ w = 2) ∧ juC s f w j ∨ ∃ n, L = n + 4 := by
  match L, h with
  | 0, h => exact .inl ⟨.inl rfl, h.1, h.2.1⟩
  | 1, h => exact .inl ⟨.inr (.inl rfl), h.1, h.2.1⟩
  | 2, h => exact .inl ⟨.inr (.inr (.inl rfl)), h.1, h.2.1⟩
  | 3, h => exact .inl ⟨.inr (.inr (.inr rfl)), h.1, h.2⟩
  | n + 4, _ => exact .inr ⟨n, rfl⟩
theorem openC {F C : Int} {s : Lw.Stops} {f w j x : Int} (hC : 0 ≤ C) (hs : stopsR s) (hF : 2 ≤ F ∧ F ≤ 64) (hf : 0 ≤ f ∧ f < F) (hw : 0 ≤ w ∧ w ≤ 2) {L : Nat} (hL : levC s f w j L) (h : NextI s f w j x true) : (0 ≤ x ∧ x ≤ 2) ∧ ∃ L', levC (clearS s f x) f x f L' ∧ phiC F C (clearS s f x) f x f L' + C ≤ phiC F C s f w j L := by
  have hf' : 0 ≤ f ∧ f < 64 := by omega
  have hcp : hasB (clearS s f x).press f = false := by
    rw [clear_press hs, decide_eq_true hf', decide_eq_true rfl]; simp
  have hch : hallB (clearS s f x) f x = false := by
    rw [clear_hall hs, decide_eq_true hf', decide_eq_true rfl]; simp
  have hju : juC (clearS s f x) f x f := fun _ => ⟨hcp, hch⟩
  have he (u : Int) := endF_range u hf
  obtain ⟨l1, l2, l3⟩ := clear_less hs f x
  have hones := onesI_range (clearS s f x)
  have hk : hasB s.press f = true ∨ hallB s f x = true := by
    cases h with
    | sOpen _ a b c d =>
      rcases d with d | d | d
      · rw [d.1]; exact .inr d.2
      · rw [d.1]; exact .inr d.2.2
      · exact .inl (any_split (w := 1) b (.inl rfl) d.2.1 d.2.2)
    | same a b c d => exact d.symm
    | turn a b c d => exact .inr c
  have hlt := ones_clear hs hf'.1 hf'.2 hk
  have hm := mul_less hC hlt
  have hm4 := mul_less (C := 4 * F) (by omega) hlt
  have hx : 0 ≤ x ∧ x ≤ 2 := by
    have := other_cases hw.1 hw.2
    cases h <;> omega
  refine ⟨hx, ?_⟩
  rcases lev_C hL with ⟨hl, hw', hj⟩ | ⟨n, rfl⟩
  · obtain ⟨o1, o2, o3⟩ := other_w hw'
    cases h with
    | sOpen _ a b c d => omega
    | same a b c d =>
      have h0 := he w
      rcases hl with rfl | rfl | rfl | rfl
      · refine ⟨0, ⟨hw', hju, by have := hL.2.2.1; omega, fun k => absurd rfl k⟩, ?_⟩
        show C * onesI _ + 4 * F * onesI _ + 4 * (if f = f then F - 1 else _) + C ≤ C * onesI _ + 4 * F * onesI _ + 4 * (if j = f then F - 1 else _)
        rw [if_pos rfl]
        split <;> omega
      · exact ⟨1, ⟨hw', hju, beh_less hs f w hL.2.2.1, opp_less hs f w hL.2.2.2⟩, by show C * onesI _ + _ + _ + C ≤ C * onesI _ + _ + _; omega⟩
      · exact ⟨2, ⟨hw', hju, beh_less hs f w hL.2.2⟩, by show C * onesI _ + _ + _ + C ≤ C * onesI _ + _ + _; omega⟩
      · exact ⟨3, ⟨hw', hju⟩, by show C * onesI _ + _ + _ + C ≤ C * onesI _ + _ + _; omega⟩
    | turn a b c d =>
      have h0 := he w
      have h1 := he (otherI w)
      have hc : hallB s f w = false := by
        rcases d with d | d | d
        · exact (hj d.1.symm).2
        · exact d.2
        · exact d.1
      have ha' := ahead_less hs f (otherI w) b
      rcases hl with rfl | rfl | rfl | rfl
      · refine ⟨0, ⟨o1, hju, by have := hL.2.2.1; omega, fun k => absurd rfl k⟩, ?_⟩
        show C * onesI _ + 4 * F * onesI _ + 4 * (if f = f then F - 1 else _) + C ≤ C * onesI _ + 4 * F * onesI _ + 4 * (if j = f then F - 1 else _)
        rw [if_pos rfl]
        split <;> omega
      · have h2 := few (clear_R hs f (otherI w)) hw' (beh_less hs f (otherI w) hL.2.2.1) (opp_less hs f (otherI w) hL.2.2.2) ha' hcp (l2 f w hc)
        refine ⟨0, ⟨o1, hju, h2, fun k => absurd rfl k⟩, ?_⟩
        have hm2 := Int.mul_le_mul_of_nonneg_left h2 (show 0 ≤ 4 * F by omega)
        show C * onesI _ + 4 * F * onesI _ + 4 * (if f = f then F - 1 else _) + C ≤ C * onesI _ + 12 * F + 4 * endF F f w
        rw [if_pos rfl]; omega
      · exact ⟨1, ⟨o1, hju, turn_beh hw' ha', turn_opp hw' ha' (l2 f w hc) (beh_less hs f (otherI w) hL.2.2)⟩, by show C * onesI _ + 12 * F + _ + C ≤ C * onesI _ + 16 * F + _; omega⟩
      · exact ⟨2, ⟨o1, hju, turn_beh hw' ha'⟩, by show C * onesI _ + 16 * F + _ + C ≤ C * onesI _ + 20 * F + _; omega⟩
  · by_cases hx0 : x = 0
    · exact ⟨4, trivial, by show C * onesI _ + 24 * F + C ≤ C * onesI _ + 24 * F; omega⟩
    · have h0 := he x
      exact ⟨3, ⟨by omega, hju⟩, by show C * onesI _ + 20 * F + 4 * endF F f x + C ≤ C * onesI _ + 24 * F; omega⟩
theorem goC {F C : Int} {s : Lw.Stops} {f w j x : Int} (hC : 0 ≤ C) (hs : stopsR s) (hF : 2 ≤ F ∧ F ≤ 64) (hin : inF s F) (hf : 0 ≤ f ∧ f < F) (hw : 0 ≤ w ∧ w ≤ 2) {L : Nat} (hL : levC s f w j L) (h : NextI s f w j x false) (hx : x ≠ 0) : (x = 1 ∨ x = 2) ∧ (0 ≤ nextF f x ∧ nextF f x < F) ∧ ∃ L', levC s (nextF f x) x (-1) L' ∧ phiC F C s (nextF f x) x (-1) L' + 4 ≤ phiC F C s f w j L := by
  have hones := onesI_range s
  have start (hxw : x = 1 ∨ x = 2) (ha : aheadB s f x = true) : (x = 1 ∨ x = 2) ∧ ((0 ≤ nextF f x ∧ nextF f x < F) ∧ juC s (nextF f x) x (-1)) ∧ (endF F (nextF f x) x = endF F f x - 1 ∧ endF F (nextF f x) x ≤ F - 2) ∧ (anyB s (nextF f x) = true ∨ aheadB s (nextF f x) x = true) := by
    obtain ⟨k, k0, k1, k2, k3⟩ := ahead_some ha
    obtain ⟨r1, r2, r3⟩ := nextF_range hxw hf ⟨k0, hin k k2⟩ k3
    exact ⟨hxw, ⟨r1, fun e => by omega⟩, ⟨r2, r3⟩, at_or hxw k2 k3⟩
  have hxa : (x = 1 ∨ x = 2) ∧ aheadB s f x = true := by
    cases h with
    | rest => exact absurd rfl hx
    | halt => exact absurd rfl hx
    | up a b c => exact ⟨.inl rfl, c⟩
    | down a b c d => exact ⟨.inr rfl, d⟩
    | on a b c => exact ⟨by omega, b⟩
    | back a b c d => exact ⟨(other_w (by omega)).1, c⟩
  obtain ⟨q1, q2, q3, q4⟩ := start hxa.1 hxa.2
  refine ⟨q1, q2.1, ?_⟩
  rcases lev_C hL with ⟨hl, hw', hj⟩ | ⟨n, rfl⟩
  · obtain ⟨o1, o2, o3⟩ := other_w hw'
    cases h with
    | rest => exact absurd rfl hx
    | halt => exact absurd rfl hx
    | up a b c => omega
    | down a b c d => omega
    | on a b c =>
      have hz : hasB s.press f = false ∧ hallB s f w = false := by
        rcases c with c | c | c
        · exact any_no c w
        · exact hj c.symm
        · exact ⟨c.2, c.1⟩
      obtain ⟨k, _, _, k2, k3⟩ := ahead_some b
      have hbeh (hb : behP s f w) : behP s (nextF f w) w := fun g hg => by
        rcases (next_lt hw' f g).1 hg with e | e
        · exact hb g e
        · rw [e]; exact ⟨hz.1, fun hc => by rw [hz.2] at hc; cases hc⟩
      have hopp (ho : oppP s f w) : oppP s (nextF f w) w := by
        refine ⟨fun g hg => ?_, fun g hg hc h hh => ho.2 g (fun e => hg ((next_lt hw' f g).2 (.inl e))) hc h hh⟩
        rcases (next_lt hw' f g).1 hg with e | e
        · exact ho.1 g e
        · rw [e]
          cases hc : hallB s f (otherI w)
          · rfl
          · have := ho.2 f (by unfold ltW; omega) hc k k3
            rw [k2] at this; cases this
      rcases hl with rfl | rfl | rfl | rfl
      · refine ⟨0, ⟨hw', q2.2, hL.2.2.1, fun _ => q4⟩, ?_⟩
        show C * onesI _ + 4 * F * onesI _ + 4 * (if -1 = nextF f w then F - 1 else _) + 4 ≤ C * onesI _ + 4 * F * onesI _ + 4 * (if j = f then F - 1 else _)
        rw [if_neg (by omega)]
        split <;> omega
      · exact ⟨1, ⟨hw', q2.2, hbeh hL.2.2.1, hopp hL.2.2.2⟩, by show C * onesI _ + 12 * F + _ + 4 ≤ C * onesI _ + 12 * F + _; omega⟩
      · exact ⟨2, ⟨hw', q2.2, hbeh hL.2.2⟩, by show C * onesI _ + 16 * F + _ + 4 ≤ C * onesI _ + 16 * F + _; omega⟩
      · exact ⟨3, ⟨hw', q2.2⟩, by show C * onesI _ + 20 * F + _ + 4 ≤ C * onesI _ + 20 * F + _; omega⟩
    | back a b c d =>
      have hz : hasB s.press f = false ∧ hallB s f w = false := by
        rcases d with d | d
        · exact any_no d w
        · exact hj d.symm
      have hbeh : behP s (nextF f (otherI w)) (otherI w) := fun g hg => by
        rcases (next_lt o1 f g).1 hg with e | e
        · exact turn_beh hw' b g e
        · rw [e]; exact ⟨hz.1, fun _ h hh => ahead_none b ((ltW_other hw' h f).1 hh)⟩
      have hopp (hb : behP s f w) : oppP s (nextF f (otherI w)) (otherI w) := by
        have ho := turn_opp hw' b hz.2 hb
        refine ⟨fun g hg => ?_, fun g hg hc h hh => ho.2 g (fun e => hg ((next_lt o1 f g).2 (.inl e))) hc h hh⟩
        rcases (next_lt o1 f g).1 hg with e | e
        · exact ho.1 g e
        · rw [e, o2]; exact hz.2
      have he := endF_range w hf
      rcases hl with rfl | rfl | rfl | rfl
      · refine ⟨0, ⟨o1, q2.2, hL.2.2.1, fun _ => q4⟩, ?_⟩
        have hjf : j = f := by
          apply Classical.byContradiction
          intro hn
          rcases hL.2.2.2 hn with k | k
          · rcases d with d | d
            · rw [d] at k; cases k
            · exact hn d.symm
          · rw [b] at k; cases k
        show C * onesI _ + 4 * F * onesI _ + 4 * (if -1 = nextF f (otherI w) then F - 1 else _) + 4 ≤ C * onesI _ + 4 * F * onesI _ + 4 * (if j = f then F - 1 else _)
        rw [if_neg (by omega), if_pos hjf]
        omega
      · have h2 := few hs hw' hL.2.2.1 hL.2.2.2 b hz.1 hz.2
        refine ⟨0, ⟨o1, q2.2, h2, fun _ => q4⟩, ?_⟩
        have hm2 := Int.mul_le_mul_of_nonneg_left h2 (show 0 ≤ 4 * F by omega)
        show C * onesI _ + 4 * F * onesI _ + 4 * (if -1 = nextF f (otherI w) then F - 1 else _) + 4 ≤ C * onesI _ + 12 * F + _
        rw [if_neg (by omega)]; omega
      · exact ⟨1, ⟨o1, q2.2, hbeh, hopp hL.2.2⟩, by show C * onesI _ + 12 * F + _ + 4 ≤ C * onesI _ + 16 * F + _; omega⟩
      · exact ⟨2, ⟨o1, q2.2, hbeh⟩, by show C * onesI _ + 16 * F + _ + 4 ≤ C * onesI _ + 20 * F + _; omega⟩
  · exact ⟨3, ⟨q1, q2.2⟩, by show C * onesI _ + 20 * F + _ + 4 ≤ C * onesI _ + 24 * F; omega⟩
def max1 (y : Int) : Int := if y ≤ 1 then 1 else y
def doorL (D : Int) (d : Lw.Door) (t : Int) : Int := if d.state = 3 then max1 d.at_ else if d.state = 2 then max1 t + D - 1 else if d.state = 1 then max1 (D - d.at_) + max1 t + D - 1 else 0
def stdC (c : Config) (x : Lw.Car) : Prop := mayB c x = true ∧ (x.mode = 0 ∧ x.broken = false ∧ x.blocked = false ∧ x.load = 0) ∧ stopsR x.stops ∧ inF x.stops (floorsI c.floors) ∧ (-2 ≤ x.timer ∧ x.timer ≤ 1000) ∧ (x.door.state = 1 ∨ x.door.state = 2 → 0 ≤ x.timer)
def costC (c : Config) : Int := 2 * spanI c.door + spanI c.dwell
def restP (x : Lw.Car) : Prop := x.stops = ⟨0, 0, 0⟩ ∧ levelB x.unit = true ∧ x.door.state = 0 ∧ x.way = 0
def Bud (c : Config) (x : Lw.Car) (b : Int) : Prop := restP x ∨
  (x.door.state = 0 ∧ ∃ f r : Int, ∃ L : Nat, (0 ≤ f ∧ f < floorsI c.floors) ∧ (1 ≤ r ∧ r ≤ 3) ∧ ((x.way = 1 ∧ x.unit + r = 4 * f) ∨ (x.way = 2 ∧ x.unit - r = 4 * f)) ∧ levC x.stops f x.way x.just L ∧ 1 + phiC (floorsI c.floors) (costC c) x.stops f x.way x.just L + r ≤ b) ∨
  (∃ f : Int, ∃ L : Nat, (0 ≤ f ∧ f < floorsI c.floors) ∧ x.unit = 4 * f ∧ levC x.stops f x.way x.just L ∧ 1 + phiC (floorsI c.floors) (costC c) x.stops f x.way x.just L + doorL (spanI c.door) x.door x.timer ≤ b)
theorem level_of {f : Int} (h : 0 ≤ f ∧ f < 64) : levelB (4 * f) = true ∧ levelF (4 * f) = f := by
  have hl : levelB (4 * f) = true := by unfold levelB; simp; omega
  refine ⟨hl, ?_⟩
  unfold levelF
  rw [hl, cond_true]; omega
theorem not_level {u f r : Int} (h : 1 ≤ r ∧ r ≤ 3) (k : u + r = 4 * f ∨ u - r = 4 * f) : levelB u = false := by
  cases hl : levelB u
  · rfl
  · unfold levelB at hl
    simp at hl
    omega
theorem max1_ge (y : Int) : 1 ≤ max1 y ∧ y ≤ max1 y := by unfold max1; split <;> omega
theorem step_still {c : Config} {y : Lw.Car} {m : Lw.Cmd} (h : m.run = 0) : stepC c y m = ⟨tickD (toldD y m) c.door y.blocked, y.unit, y.way, y.timer, y.just, y.load, y.blocked, y.broken, y.mode, y.target, y.hold, y.stops⟩ := by
  unfold stepC
  rw [if_neg (by rw [h]; simp)]
theorem step_run {c : Config} {y : Lw.Car} {q : Int} (hb : y.broken = false) (h0 : y.door.state = 0) (hq : q = 1 ∨ q = 2) : stepC c y ⟨q, false, false⟩ = ⟨y.door, moveI y.unit q c.floors, q, y.timer, y.just, y.load, y.blocked, y.broken, y.mode, y.target, y.hold, y.stops⟩ := by
  have hd : toldD y ⟨q, false, false⟩ = y.door := told_n hb (.inl rfl) (.inl rfl)
  unfold stepC
  rw [hd, tickD_zero h0, if_pos ⟨hb, h0, h0, hq⟩]
theorem normal_tick {c : Config} {x : Lw.Car} (hb : x.broken = false) (hm : x.mode = 0) : tickCar c x = stepC c (normalT c (ctl0 x)).car (normalT c (ctl0 x)).cmd := by
  unfold tickCar
  rw [show ctlT c x = normalT c (ctl0 x) from (if_neg (by rw [hb]; simp)).trans (if_neg (by rw [hm]; decide))]
theorem tick_n1 {c : Config} {x : Lw.Car} (hb : x.broken = false) (hm : x.mode = 0) (h0 : x.door.state = 0) (hl : levelB x.unit = false) (hw : x.way = 1 ∨ x.way = 2) : tickCar c x = ⟨x.door, moveI x.unit x.way c.floors, x.way, x.timer, x.just, x.load, x.blocked, x.broken, x.mode, x.target, x.hold, x.stops⟩ := by
  rw [normal_tick hb hm, show normalT c (ctl0 x) = cmdK (ctl0 x) ⟨x.way, false, false⟩ from if_pos ⟨h0, hl⟩]
  exact step_run hb h0 hw
theorem normal_stand {c : Config} {x : Lw.Car} (h0 : x.door.state = 0) (hl : levelB x.unit = true) : normalT c (ctl0 x) = standT c (levelF x.unit) (ctl0 x) := (if_neg fun k => by rw [show levelB x.unit = false from k.2] at hl; cases hl).trans (if_pos h0)
theorem tick_open {c : Config} {x : Lw.Car} (hb : x.broken = false) (hm : x.mode = 0) (h0 : x.door.state = 0) (hl : levelB x.unit = true) (hq : (nextI x.stops (levelF x.unit) x.way x.just).2 = true) : tickCar c x = ⟨tickD (openD x.door) c.door x.blocked, x.unit, (nextI x.stops (levelF x.unit) x.way x.just).1, spanI c.dwell, levelF x.unit, x.load, x.blocked, x.broken, x.mode, x.target, x.hold, clearS x.stops (levelF x.unit) (nextI x.stops (levelF x.unit) x.way x.just).1⟩ := by
  rw [normal_tick hb hm, normal_stand h0 hl, show standT c (levelF x.unit) (ctl0 x) = openK c (levelF x.unit) (nextI x.stops (levelF x.unit) x.way x.just).1 (ctl0 x) from if_pos hq]
  rw [step_still rfl, told_o (x := (openK c (levelF x.unit) (nextI x.stops (levelF x.unit) x.way x.just).1 (ctl0 x)).car) hb ⟨rfl, hl⟩]
  rfl
theorem tick_rest {c : Config} {x : Lw.Car} (hb : x.broken = false) (hm : x.mode = 0) (h0 : x.door.state = 0) (hl : levelB x.unit = true) (hq : (nextI x.stops (levelF x.unit) x.way x.just).2 = false) (hz : (nextI x.stops (levelF x.unit) x.way x.just).1 = 0) : tickCar c x = ⟨x.door, x.unit, 0, x.timer, x.just, x.load, x.blocked, x.broken, x.mode, x.target, x.hold, x.stops⟩ := by
  rw [normal_tick hb hm, normal_stand h0 hl, show standT c (levelF x.unit) (ctl0 x) = standK (ctl0 x) 0 from ((if_neg (by rw [show (nextI (ctl0 x).car.stops (levelF x.unit) (ctl0 x).car.way (ctl0 x).car.just).2 = false from hq]; simp)).trans (if_pos hz)).trans (congrArg (standK (ctl0 x)) hz)]
  rw [step_still rfl, told_n (x := (standK (ctl0 x) 0).car) hb (.inl rfl) (.inl rfl), tickD_zero (show (standK (ctl0 x) 0).car.door.state = 0 from h0)]
  rfl
theorem tick_go {c : Config} {x : Lw.Car} (hb : x.broken = false) (hm : x.mode = 0) (h0 : x.door.state = 0) (hl : levelB x.unit = true) (hq : (nextI x.stops (levelF x.unit) x.way x.just).2 = false) (hz : (nextI x.stops (levelF x.unit) x.way x.just).1 = 1 ∨ (nextI x.stops (levelF x.unit) x.way x.just).1 = 2) : tickCar c x = ⟨x.door, moveI x.unit (nextI x.stops (levelF x.unit) x.way x.just).1 c.floors, (nextI x.stops (levelF x.unit) x.way x.just).1, x.timer, -1, x.load, x.blocked, x.broken, x.mode, x.target, x.hold, x.stops⟩ := by
  rw [normal_tick hb hm, normal_stand h0 hl, show standT c (levelF x.unit) (ctl0 x) = goK (ctl0 x) (nextI x.stops (levelF x.unit) x.way x.just).1 from (if_neg (by rw [show (nextI (ctl0 x).car.stops (levelF x.unit) (ctl0 x).car.way (ctl0 x).car.just).2 = false from hq]; simp)).trans (if_neg (by show ¬ (nextI x.stops (levelF x.unit) x.way x.just).1 = 0; omega))]
  exact step_run hb h0 hz
theorem tick_wait {c : Config} {x : Lw.Car} (hb : x.broken = false) (hm : x.mode = 0) (h0 : x.door.state ≠ 0) (h2 : x.door.state ≠ 2) : tickCar c x = ⟨tickD x.door c.door x.blocked, x.unit, x.way, x.timer, x.just, x.load, x.blocked, x.broken, x.mode, x.target, x.hold, x.stops⟩ := by
  rw [normal_tick hb hm, show normalT c (ctl0 x) = ctl0 x from (if_neg fun k => h0 k.1).trans ((if_neg h0).trans (if_pos h2))]
  rw [step_still rfl, told_n (x := (ctl0 x).car) hb (.inl rfl) (.inl rfl)]
  rfl
theorem tick_dwell {c : Config} {x : Lw.Car} (hb : x.broken = false) (hm : x.mode = 0) (hbl : x.blocked = false) (hld : x.load = 0) (h2 : x.door.state = 2) : tickCar c x = ⟨tickD (if IntKind.i64.wrap (x.timer - 1) ≤ 0 then closeD x.door else x.door) c.door x.blocked, x.unit, x.way, IntKind.i64.wrap (x.timer - 1), x.just, x.load, x.blocked, x.broken, x.mode, x.target, x.hold, x.stops⟩ := by
  have hov : overB x.load c.load = false := by
    have := massI_range c.load
    rw [hld]
    unfold overB
    rw [show massI 0 = 0 by decide]
    exact decide_eq_false (by omega)
  rw [normal_tick hb hm, show normalT c (ctl0 x) = timeK (ctl0 x) (IntKind.i64.wrap (x.timer - 1)) (decide (IntKind.i64.wrap (x.timer - 1) ≤ 0)) from (if_neg fun k => by have := k.1; rw [show (ctl0 x).car.door.state = 2 from h2] at this; omega).trans ((if_neg (by rw [show (ctl0 x).car.door.state = 2 from h2]; decide)).trans ((if_neg fun k => k h2).trans (if_neg fun k => by
    rcases k with k | k
    · rw [show x.blocked = true from k] at hbl; cases hbl
    · rw [show overB x.load c.load = true from k] at hov; cases hov)))]
  rw [step_still rfl]
  by_cases hc : IntKind.i64.wrap (x.timer - 1) ≤ 0
  · rw [told_c (x := (timeK (ctl0 x) (IntKind.i64.wrap (x.timer - 1)) (decide (IntKind.i64.wrap (x.timer - 1) ≤ 0))).car) hb (.inl rfl) (decide_eq_true hc), if_pos hc]
    rfl
  · rw [told_n (x := (timeK (ctl0 x) (IntKind.i64.wrap (x.timer - 1)) (decide (IntKind.i64.wrap (x.timer - 1) ≤ 0))).car) hb (.inl rfl) (.inl (decide_eq_false hc)), if_neg hc]
    rfl
theorem inF_clear {s : Lw.Stops} {F f x : Int} (hs : stopsR s) (h : inF s F) : inF (clearS s f x) F := fun g hg => h g (by
  cases ha : anyB s g
  · rw [(clear_less hs f x).2.2 g ha] at hg; cases hg
  · rfl)
theorem inF_zero {F : Int} : inF ⟨0, 0, 0⟩ F := fun g hg => by rw [any_zero] at hg; cases hg
theorem doorL_0 (D a t : Int) : doorL D ⟨0, a⟩ t = 0 := by simp [doorL]
theorem doorL_1 (D a t : Int) : doorL D ⟨1, a⟩ t = max1 (D - a) + max1 t + D - 1 := by simp [doorL]
theorem doorL_2 (D a t : Int) : doorL D ⟨2, a⟩ t = max1 t + D - 1 := by simp [doorL]
theorem doorL_3 (D a t : Int) : doorL D ⟨3, a⟩ t = max1 a := by simp [doorL]
theorem td1 (a t : Int) : tickD ⟨1, a⟩ t false = if a + 1 ≥ spanI t then ⟨2, spanI t⟩ else ⟨1, a + 1⟩ := by simp [tickD]
theorem td2 (a t : Int) : tickD ⟨2, a⟩ t false = ⟨2, a⟩ := by simp [tickD]
theorem td3 (a t : Int) : tickD ⟨3, a⟩ t false = if a ≤ 1 then ⟨0, 0⟩ else ⟨3, a - 1⟩ := by simp [tickD]
theorem door_open0 {d : Lw.Door} {t : Int} (h0 : d.state = 0) (ha : d.at_ = 0) (W : Int) (hW : 1 ≤ W) : doorL (spanI t) (tickD (openD d) t false) W ≤ 2 * spanI t + W - 2 := by
  have hs := spanI_range t
  obtain ⟨st, aa⟩ := d
  simp only at h0 ha
  subst h0; subst ha
  rw [show openD ⟨0, 0⟩ = ⟨1, 0⟩ by simp [openD], td1]
  split
  · rw [doorL_2]; unfold max1; split <;> omega
  · rw [doorL_1]; unfold max1; (repeat' split) <;> omega
theorem door_wait {d : Lw.Door} {t : Int} (hg : goodD d t = true) (h : d.state = 1 ∨ d.state = 3) (T : Int) : doorL (spanI t) (tickD d t false) T + 1 ≤ doorL (spanI t) d T ∧ ((tickD d t false).state = 1 ∨ (tickD d t false).state = 2 → d.state = 1) := by
  have hs := spanI_range t
  obtain ⟨st, aa⟩ := d
  have h4 := door_four hg
  simp only at h h4
  have hm := max1_ge T
  rcases h with rfl | rfl
  · refine ⟨?_, fun _ => rfl⟩
    rw [td1, doorL_1]
    split
    · rw [doorL_2]; unfold max1 at *; (repeat' split) <;> omega
    · rw [doorL_1]; unfold max1 at *; (repeat' split) <;> omega
  · rw [td3, doorL_3]
    split
    · rw [doorL_0]
      refine ⟨?_, fun k => by simp at k⟩
      unfold max1; split <;> omega
    · rw [doorL_3]
      refine ⟨?_, fun k => by simp at k⟩
      unfold max1; (repeat' split) <;> omega
theorem door_dwell {d : Lw.Door} {t : Int} (hg : goodD d t = true) (h : d.state = 2) (T : Int) : doorL (spanI t) (tickD (if T - 1 ≤ 0 then closeD d else d) t false) (T - 1) + 1 ≤ doorL (spanI t) d T ∧ ((tickD (if T - 1 ≤ 0 then closeD d else d) t false).state = 1 ∨ (tickD (if T - 1 ≤ 0 then closeD d else d) t false).state = 2 → 0 ≤ T - 1) := by
  have hs := spanI_range t
  obtain ⟨st, aa⟩ := d
  have h4 := door_four hg
  simp only at h h4
  subst h
  have haa : aa = spanI t := by omega
  by_cases hc : T - 1 ≤ 0
  · rw [if_pos hc, show closeD ⟨2, aa⟩ = ⟨3, aa⟩ by simp [closeD], td3, doorL_2]
    split
    · rw [doorL_0]
      refine ⟨?_, fun k => by simp at k⟩
      unfold max1; split <;> omega
    · rw [doorL_3]
      refine ⟨?_, fun k => by simp at k⟩
      unfold max1; (repeat' split) <;> omega
  · rw [if_neg hc, td2, doorL_2, doorL_2]
    refine ⟨?_, fun _ => by omega⟩
    unfold max1; (repeat' split) <;> omega
theorem serves_tick {c : Config} {x : Lw.Car} {b : Int} (h : stdC c x) (hB : Bud c x b) : stdC c (tickCar c x) ∧ Bud c (tickCar c x) (b - 1) := by
  obtain ⟨hm, ⟨m1, m2, m3, m4⟩, hs, hin, ht, ht0⟩ := h
  have hF := floorsI_range c.floors
  have hD := spanI_range c.door
  have hW := spanI_range c.dwell
  obtain ⟨t1, t2, _⟩ := tick_may hm hs
  obtain ⟨k1, k2, k3, k4, k5⟩ := tick_same c x
  obtain ⟨hg, _, hlev, _⟩ := may_iff.1 hm
  simp only [goodC, decide_eq_true_eq] at hg
  obtain ⟨hgd, hu0, hu1, hw0, hw2, hsafe⟩ := hg
  have hC : 0 ≤ costC c := by unfold costC; omega
  have std (hl : (tickCar c x).load = 0) (hi : inF (tickCar c x).stops (floorsI c.floors)) (htt : -2 ≤ (tickCar c x).timer ∧ (tickCar c x).timer ≤ 1000) (htz : (tickCar c x).door.state = 1 ∨ (tickCar c x).door.state = 2 → 0 ≤ (tickCar c x).timer) : stdC c (tickCar c x) := ⟨t1, ⟨k1.trans m1, k3.trans m2, k4.trans m3, hl⟩, t2, hi, htt, htz⟩
  have zero (k : x.door.state = 0) : x.door = ⟨0, 0⟩ := by
    have h4 := door_four hgd
    obtain ⟨⟨st, aa⟩, _⟩ := x
    simp only at k h4 ⊢
    have : aa = 0 := by omega
    rw [k, this]
  rcases hB with ⟨r1, r2, r3, r4⟩ | ⟨h0, f, r, L, hf, hr, hw, hL, hb⟩ | ⟨f, L, hf, hu, hL, hb⟩
  · have hgo := (goes (f := levelF x.unit) (j := x.just) hs hw0 hw2).1 r1
    have e := tick_rest (c := c) m2 m1 r3 r2 hgo.2 hgo.1
    refine ⟨std (by rw [e]; exact m4) (by rw [e]; exact hin) (by rw [e]; exact ht) (by rw [e]; exact ht0), .inl ?_⟩
    rw [e]
    exact ⟨r1, r2, r3, rfl⟩
  · have hl : levelB x.unit = false := not_level (u := x.unit) (f := f) (r := r) hr (by omega)
    have e := tick_n1 (c := c) m2 m1 h0 hl (by omega)
    refine ⟨std (by rw [e]; exact m4) (by rw [e]; exact hin) (by rw [e]; exact ht) (by rw [e]; exact ht0), .inr ?_⟩
    have hmv : moveI x.unit x.way c.floors + (if x.way = 1 then r - 1 else -(r - 1)) = 4 * f := by
      unfold moveI
      rcases hw with ⟨w, k⟩ | ⟨w, k⟩
      · rw [if_pos ⟨w, by omega⟩, if_pos w]; omega
      · rw [if_neg (by omega), if_pos ⟨w, by omega⟩, if_neg (by omega)]; omega
    by_cases hr1 : r = 1
    · right
      rw [e]
      refine ⟨f, L, hf, ?_, hL, ?_⟩
      · subst hr1
        simp only
        split at hmv <;> omega
      · simp only
        rw [zero h0, doorL_0]; omega
    · left
      rw [e]
      refine ⟨h0, f, r - 1, L, hf, by omega, ?_, hL, by simp only; omega⟩
      simp only
      rcases hw with ⟨w, k⟩ | ⟨w, k⟩
      · rw [if_pos w] at hmv; exact .inl ⟨w, hmv⟩
      · rw [if_neg (by omega)] at hmv; exact .inr ⟨w, by omega⟩
  · obtain ⟨hl, hlf⟩ := level_of (f := f) (by omega)
    rw [← hu] at hl hlf
    by_cases h0 : x.door.state = 0
    · have hb : 1 + phiC (floorsI c.floors) (costC c) x.stops f x.way x.just L ≤ b := by
        rw [zero h0, doorL_0] at hb; omega
      have hq := nextI_cases (s := x.stops) (f := levelF x.unit) (j := x.just) hw0 hw2
      have hgo := (goes (f := levelF x.unit) (j := x.just) hs hw0 hw2).2.2
      cases hq2 : (nextI x.stops (levelF x.unit) x.way x.just).2
      · by_cases hz : (nextI x.stops (levelF x.unit) x.way x.just).1 = 0
        · have e := tick_rest (c := c) m2 m1 h0 hl hq2 hz
          refine ⟨std (by rw [e]; exact m4) (by rw [e]; exact hin) (by rw [e]; exact ht) (by rw [e]; exact ht0), .inl ?_⟩
          rw [e]
          refine ⟨Classical.byContradiction fun hne => ?_, hl, h0, rfl⟩
          have := (hgo hne hq2).1
          omega
        · have hx2 : (nextI x.stops (levelF x.unit) x.way x.just).1 = 1 ∨ (nextI x.stops (levelF x.unit) x.way x.just).1 = 2 := by
            rw [hq2, hlf] at hq
            rw [hlf] at hz ⊢
            exact (goC (F := floorsI c.floors) hC hs hF hin hf ⟨hw0, hw2⟩ hL hq hz).1
          have e := tick_go (c := c) m2 m1 h0 hl hq2 hx2
          rw [hlf] at e hq hq2 hz hx2
          rw [hq2] at hq
          obtain ⟨q1, q2, L', hL', hlt⟩ := goC (F := floorsI c.floors) (C := costC c) hC hs hF hin hf ⟨hw0, hw2⟩ hL hq hz
          refine ⟨std (by rw [e]; exact m4) (by rw [e]; exact hin) (by rw [e]; exact ht) (by rw [e]; exact ht0), .inr (.inl ?_)⟩
          rw [e]
          generalize (nextI x.stops f x.way x.just).1 = q at *
          refine ⟨h0, nextF f q, 3, L', q2, by omega, ?_, hL', by simp only; omega⟩
          simp only
          rw [hu]
          unfold moveI nextF at *
          rcases q1 with rfl | rfl
          · simp at q2 ⊢
            rw [if_pos (by omega)]; omega
          · simp at q2 ⊢
            rw [if_pos (by omega)]; omega
      · have e := tick_open (c := c) m2 m1 h0 hl hq2
        rw [hlf] at e hq hq2
        rw [hq2] at hq
        obtain ⟨q1, L', hL', hlt⟩ := openC (F := floorsI c.floors) (C := costC c) hC hs hF hf ⟨hw0, hw2⟩ hL hq
        generalize (nextI x.stops f x.way x.just).1 = q at *
        refine ⟨std (by rw [e]; exact m4) (by rw [e]; exact inF_clear hs hin) (by rw [e]; simp only; omega) (by rw [e]; simp only; omega), .inr (.inr ?_)⟩
        rw [e]
        have hd := door_open0 (d := x.door) (t := c.door) h0 (by rw [zero h0]) (spanI c.dwell) (by omega)
        refine ⟨f, L', hf, hu, hL', ?_⟩
        have hcc : costC c = 2 * spanI c.door + spanI c.dwell := rfl
        simp only [m3]
        omega
    · by_cases h2 : x.door.state = 2
      · have e := tick_dwell (c := c) m2 m1 m3 m4 h2
        have hT := ht0 (.inr h2)
        rw [wrap_id (n := x.timer - 1) (by omega) (by omega), m3] at e
        obtain ⟨d1, d2⟩ := door_dwell hgd h2 x.timer
        refine ⟨std (by rw [e]; exact m4) (by rw [e]; exact hin) (by rw [e]; simp only; omega) (by rw [e]; exact d2), .inr (.inr ?_)⟩
        rw [e]
        exact ⟨f, L, hf, hu, hL, by simp only; omega⟩
      · have e := tick_wait (c := c) m2 m1 h0 h2
        rw [m3] at e
        have h13 : x.door.state = 1 ∨ x.door.state = 3 := by
          have h4 := door_four hgd
          omega
        obtain ⟨d1, d2⟩ := door_wait hgd h13 x.timer
        refine ⟨std (by rw [e]; exact m4) (by rw [e]; exact hin) (by rw [e]; exact ht) (by rw [e]; exact fun k => ht0 (.inl (d2 k))), .inr (.inr ?_)⟩
        rw [e]
        exact ⟨f, L, hf, hu, hL, by simp only; omega⟩
theorem bud_end {c : Config} {x : Lw.Car} {b : Int} (h : stdC c x) (hB : Bud c x b) (hb : b ≤ 0) : idleB x = true := by
  obtain ⟨hm, ⟨m1, m2, m3, m4⟩, hs, hin, ht, ht0⟩ := h
  have hF := floorsI_range c.floors
  have hD := spanI_range c.door
  have hW := spanI_range c.dwell
  have hC : 0 ≤ costC c := by unfold costC; omega
  rcases hB with ⟨r1, r2, r3, r4⟩ | ⟨h0, f, r, L, hf, hr, hw, hL, hb'⟩ | ⟨f, L, hf, hu, hL, hb'⟩
  · unfold idleB
    rw [r1, r2, r3, r4, m1, m2]
    decide
  · have := phiC_pos (s := x.stops) (w := x.way) (j := x.just) hF.1 hC hf L
    omega
  · have h1 := phiC_pos (s := x.stops) (w := x.way) (j := x.just) hF.1 hC hf L
    have h2 : 0 ≤ doorL (spanI c.door) x.door x.timer := by
      have a1 := max1_ge x.door.at_
      have a2 := max1_ge x.timer
      have a3 := max1_ge (spanI c.door - x.door.at_)
      unfold doorL; (repeat' split) <;> omega
    omega
theorem cnt_none : ∀ n : Nat, cnt n 0 = 0
  | 0 => rfl
  | n + 1 => by rw [cnt_succ, Nat.zero_div, cnt_none n]
theorem small_cnt {x F : Nat} (h : x < 2 ^ F) (hF : F ≤ 64) : cnt 64 x ≤ F := by
  have := cnt_add F (64 - F) x
  rw [show F + (64 - F) = 64 by omega, Nat.div_eq_of_lt h, cnt_none] at this
  have := cnt_le F x
  omega
theorem mask_small {p F : Int} (hp : u64R p) (hF : 2 ≤ F ∧ F ≤ 12) : u64R (bitsI .and .u64 p (IntKind.u64.wrap (bitI F - 1))) ∧ (bitsI .and .u64 p (IntKind.u64.wrap (bitI F - 1))).toNat < 2 ^ F.toNat := by
  refine ⟨bits_R _ _ _, ?_⟩
  have h2 : 2 ^ F.toNat ≤ 2 ^ 12 := Nat.pow_le_pow_right (by decide) (by omega)
  have h1 : 0 < 2 ^ F.toNat := Nat.two_pow_pos _
  obtain ⟨m, rfl⟩ : ∃ m : Nat, p = (m : Int) := ⟨p.toNat, by unfold u64R at hp; omega⟩
  unfold u64R at hp
  have e : IntKind.u64.wrap (bitI F - 1) = ((2 ^ F.toNat - 1 : Nat) : Int) := by
    unfold bitI
    rw [if_pos (by omega), IntKind.wrap_u64]
    generalize 2 ^ F.toNat = q at *
    omega
  rw [e, and_nat m _ (by omega) (by omega), Int.toNat_natCast]
  have := Nat.and_le_right (n := m) (m := 2 ^ F.toNat - 1)
  omega
theorem small_has {p F g : Int} (h : p.toNat < 2 ^ F.toNat) (hF : 0 ≤ F) (hg : hasB p g = true) : g < F := by
  have hr := has_range hg
  rw [has_tb, Bool.and_eq_true] at hg
  apply Classical.byContradiction
  intro hn
  have : 2 ^ F.toNat ≤ 2 ^ g.toNat := Nat.pow_le_pow_right (by decide) (by omega)
  rw [Nat.testBit_lt_two_pow (by omega)] at hg
  exact absurd hg.2 (by simp)
theorem span_max {n k : Int} (h : n ≤ k) (hk : k ≤ 1000) : mm true n 1 = spanI n := by
  rw [mm_max]
  unfold spanI clampI
  (repeat' split) <;> omega
theorem bud_start {c : Config} {x : Lw.Car} {N : Int} (hm : mayB c x = true) (hF : floorsI c.floors ≤ 12) (ho : onesI x.stops ≤ 3 * floorsI c.floors) (ht : 0 ≤ x.timer ∧ x.timer ≤ 8) (hN : N = 40 * floorsI c.floors - 20 + 5 * (costC c * floorsI c.floors)) : Bud c x N := by
  have hf := floorsI_range c.floors
  have hD := spanI_range c.door
  have hW := spanI_range c.dwell
  obtain ⟨hg, _, hlev, _⟩ := may_iff.1 hm
  simp only [goodC, decide_eq_true_eq] at hg
  obtain ⟨hgd, hu0, hu1, hw0, hw2, hsafe⟩ := hg
  have hC : 0 ≤ costC c := by unfold costC; omega
  have m1 := Int.mul_le_mul_of_nonneg_left ho hC
  have m2 := Int.mul_le_mul_of_nonneg_left hf.1 hC
  have m3 : costC c * (3 * floorsI c.floors) = 3 * (costC c * floorsI c.floors) := by rw [Int.mul_left_comm]
  have hcc : costC c = 2 * spanI c.door + spanI c.dwell := rfl
  have hdl : doorL (spanI c.door) x.door x.timer ≤ 2 * spanI c.door + 7 := by
    have h4 := door_four hgd
    unfold doorL max1
    (repeat' split) <;> omega
  have big : 1 + (costC c * onesI x.stops + 24 * floorsI c.floors) + (2 * spanI c.door + 7) ≤ N := by
    rw [hN]
    rw [m3] at m1
    generalize costC c * floorsI c.floors = Z at *
    generalize costC c * onesI x.stops = P at *
    omega
  have hphi (f w : Int) : phiC (floorsI c.floors) (costC c) x.stops f w x.just 4 = costC c * onesI x.stops + 24 * floorsI c.floors := rfl
  clear m1 m2 m3 hN
  cases hl : levelB x.unit
  · have h0 : x.door.state = 0 := by
      rcases hsafe with k | k
      · exact k
      · rw [hl] at k; cases k
    have hw : x.way = 1 ∨ x.way = 2 := by
      rcases hlev with k | k
      · rw [hl] at k; cases k
      · omega
    have hu : x.unit % 4 ≠ 0 := by
      intro k
      have : levelB x.unit = true := by unfold levelB; simp; omega
      rw [hl] at this; cases this
    refine .inr (.inl ⟨h0, ?_⟩)
    rcases hw with w | w
    · refine ⟨x.unit / 4 + 1, 4 * (x.unit / 4 + 1) - x.unit, 4, by omega, by omega, .inl ⟨w, by omega⟩, trivial, ?_⟩
      rw [hphi]
      generalize costC c * onesI x.stops = P at *
      omega
    · refine ⟨x.unit / 4, x.unit - 4 * (x.unit / 4), 4, by omega, by omega, .inr ⟨w, by omega⟩, trivial, ?_⟩
      rw [hphi]
      generalize costC c * onesI x.stops = P at *
      omega
  · have hu : x.unit = 4 * (x.unit / 4) := by
      unfold levelB at hl
      simp at hl
      omega
    refine .inr (.inr ⟨x.unit / 4, 4, by omega, hu, trivial, ?_⟩)
    rw [hphi]
    generalize costC c * onesI x.stops = P at *
    omega
theorem h14 : Holds Try.prog eid 14 (s14) := by
  refine hold tb69_ok Try.func14 (by kernel_rfl) ?_ (by kernel_rfl)
  intro xs M t h
  unfold s14 at h
  split at h
  case h_2 => cases h
  rename_i csc csx
  obtain ⟨c, hcc, h1⟩ := Option.bind_eq_some_iff.1 h
  clear h
  have h := h1
  clear h1
  obtain ⟨x, hcx, h1⟩ := Option.bind_eq_some_iff.1 h
  clear h
  have h := h1
  clear h1
  cases h
  cases Lw.Config.of_eq hcc
  clear hcc
  cases Lw.Car.of_eq hcx
  clear hcx
  refine ⟨fun l h => (nomatch h), ?_⟩
  intro hp
  rw [v14_vc]
  have hr : stopsR x.stops := hp
  have hf := floorsI_range c.floors
  have hD := spanI_range c.door
  have hW := spanI_range c.dwell
  refine cnd_iff.2 ⟨fun _ => ends_pl rfl, fun hg => ?_⟩
  rw [c_or, c_or, c_or, c_or, c_or] at hg
  simp only [Bool.or_eq_false_iff, decide_eq_false_iff_not, Bool.not_eq_false'] at hg
  obtain ⟨⟨⟨⟨⟨hm, hF⟩, hd⟩, hw⟩, ht1⟩, ht0⟩ := hg
  obtain ⟨p1, p2⟩ := mask_small (F := floorsI c.floors) hr.1 (by omega)
  obtain ⟨u1, u2⟩ := mask_small (F := floorsI c.floors) hr.2.1 (by omega)
  obtain ⟨d1, d2⟩ := mask_small (F := floorsI c.floors) hr.2.2 (by omega)
  have hQ := mul_range (a := floorsI c.floors) (b := 2 * spanI c.door + spanI c.dwell + 4) (A := 64) (B := 5000) (by omega) (by omega) (by omega) (by omega)
  have hmul : floorsI c.floors * (2 * spanI c.door + spanI c.dwell + 4) = costC c * floorsI c.floors + 4 * floorsI c.floors := by
    rw [Int.mul_comm]
    show (costC c + 4) * _ = _
    rw [Int.add_mul]
  have hN : IntKind.i64.wrap (5 * IntKind.i64.wrap (IntKind.i64.wrap (4 * IntKind.i64.wrap (floorsI c.floors - 1)) + IntKind.i64.wrap (floorsI c.floors * IntKind.i64.wrap (IntKind.i64.wrap (IntKind.i64.wrap (2 * mm true c.door 1) + mm true c.dwell 1) + 4)))) = 40 * floorsI c.floors - 20 + 5 * (costC c * floorsI c.floors) := by
    rw [span_max (k := 5) (by omega) (by decide), span_max (k := 8) (by omega) (by decide), wrap_id (n := 2 * spanI c.door) (by omega) (by omega), wrap_id (n := 2 * spanI c.door + spanI c.dwell) (by omega) (by omega), wrap_id (n := 2 * spanI c.door + spanI c.dwell + 4) (by omega) (by omega), wrap_id (n := floorsI c.floors - 1) (by omega) (by omega), wrap_id (n := 4 * (floorsI c.floors - 1)) (by omega) (by omega)]
    rw [hmul] at hQ ⊢
    generalize costC c * floorsI c.floors = Z at *
    rw [wrap_id (n := Z + 4 * floorsI c.floors) (by omega) (by omega), wrap_id (n := 4 * (floorsI c.floors - 1) + (Z + 4 * floorsI c.floors)) (by omega) (by omega), wrap_id (by omega) (by omega)]
    omega
  have hst : stdC c ⟨x.door, x.unit, x.way, x.timer, x.just, 0, false, false, 0, x.target, x.hold, ⟨bitsI .and .u64 x.stops.press (IntKind.u64.wrap (bitI (floorsI c.floors) - 1)), bitsI .and .u64 x.stops.up (IntKind.u64.wrap (bitI (floorsI c.floors) - 1)), bitsI .and .u64 x.stops.down (IntKind.u64.wrap (bitI (floorsI c.floors) - 1))⟩⟩ := ⟨hm, ⟨rfl, rfl, rfl, rfl⟩, ⟨p1, u1, d1⟩, fun g hg => by
    unfold anyB at hg
    simp only [Bool.or_eq_true] at hg
    rcases hg with k | k | k
    · exact small_has p2 (by omega) k
    · exact small_has u2 (by omega) k
    · exact small_has d2 (by omega) k, by simp only; omega, fun _ => by simp only; omega⟩
  have hbud : Bud c ⟨x.door, x.unit, x.way, x.timer, x.just, 0, false, false, 0, x.target, x.hold, ⟨bitsI .and .u64 x.stops.press (IntKind.u64.wrap (bitI (floorsI c.floors) - 1)), bitsI .and .u64 x.stops.up (IntKind.u64.wrap (bitI (floorsI c.floors) - 1)), bitsI .and .u64 x.stops.down (IntKind.u64.wrap (bitI (floorsI c.floors) - 1))⟩⟩ (IntKind.i64.wrap (5 * IntKind.i64.wrap (IntKind.i64.wrap (4 * IntKind.i64.wrap (floorsI c.floors - 1)) + IntKind.i64.wrap (floorsI c.floors * IntKind.i64.wrap (IntKind.i64.wrap (IntKind.i64.wrap (2 * mm true c.door 1) + mm true c.dwell 1) + 4))))) := bud_start hm (by omega) (by
    have a1 := small_cnt p2 (by omega)
    have a2 := small_cnt u2 (by omega)
    have a3 := small_cnt d2 (by omega)
    unfold onesI cntI
    simp only
    omega) ⟨by simp only; omega, by simp only; omega⟩ hN
  have hN0 : 0 ≤ IntKind.i64.wrap (5 * IntKind.i64.wrap (IntKind.i64.wrap (4 * IntKind.i64.wrap (floorsI c.floors - 1)) + IntKind.i64.wrap (floorsI c.floors * IntKind.i64.wrap (IntKind.i64.wrap (IntKind.i64.wrap (2 * mm true c.door 1) + mm true c.dwell 1) + 4)))) := by
    rw [hN]
    rw [hmul] at hQ
    generalize costC c * floorsI c.floors = Z at *
    omega
  refine loopVC_st (S := Lw.Car × Int) v14b_m 2 (fun q => v14b_fr c (IntKind.i64.wrap (5 * IntKind.i64.wrap (IntKind.i64.wrap (4 * IntKind.i64.wrap (floorsI c.floors - 1)) + IntKind.i64.wrap (floorsI c.floors * IntKind.i64.wrap (IntKind.i64.wrap (IntKind.i64.wrap (2 * mm true c.door 1) + mm true c.dwell 1) + 4))))) q.1 q.2) (fun q => v14b_mem c (IntKind.i64.wrap (5 * IntKind.i64.wrap (IntKind.i64.wrap (4 * IntKind.i64.wrap (floorsI c.floors - 1)) + IntKind.i64.wrap (floorsI c.floors * IntKind.i64.wrap (IntKind.i64.wrap (IntKind.i64.wrap (2 * mm true c.door 1) + mm true c.dwell 1) + 4))))) q.1 q.2) (fun q => (IntKind.i64.wrap (5 * IntKind.i64.wrap (IntKind.i64.wrap (4 * IntKind.i64.wrap (floorsI c.floors - 1)) + IntKind.i64.wrap (floorsI c.floors * IntKind.i64.wrap (IntKind.i64.wrap (IntKind.i64.wrap (2 * mm true c.door 1) + mm true c.dwell 1) + 4)))) - q.2).toNat) (fun q => (0 ≤ q.2 ∧ q.2 ≤ IntKind.i64.wrap (5 * IntKind.i64.wrap (IntKind.i64.wrap (4 * IntKind.i64.wrap (floorsI c.floors - 1)) + IntKind.i64.wrap (floorsI c.floors * IntKind.i64.wrap (IntKind.i64.wrap (IntKind.i64.wrap (2 * mm true c.door 1) + mm true c.dwell 1) + 4))))) ∧ stdC c q.1 ∧ Bud c q.1 (IntKind.i64.wrap (5 * IntKind.i64.wrap (IntKind.i64.wrap (4 * IntKind.i64.wrap (floorsI c.floors - 1)) + IntKind.i64.wrap (floorsI c.floors * IntKind.i64.wrap (IntKind.i64.wrap (IntKind.i64.wrap (2 * mm true c.door 1) + mm true c.dwell 1) + 4)))) - q.2)) rfl ⟨(⟨x.door, x.unit, x.way, x.timer, x.just, 0, false, false, 0, x.target, x.hold, ⟨bitsI .and .u64 x.stops.press (IntKind.u64.wrap (bitI (floorsI c.floors) - 1)), bitsI .and .u64 x.stops.up (IntKind.u64.wrap (bitI (floorsI c.floors) - 1)), bitsI .and .u64 x.stops.down (IntKind.u64.wrap (bitI (floorsI c.floors) - 1))⟩⟩, 0), ⟨⟨by simp, hN0⟩, hst, by simp only [Int.sub_zero]; exact hbud⟩, rfl, rfl⟩ ?_
  have hNb : 0 ≤ IntKind.i64.wrap (5 * IntKind.i64.wrap (IntKind.i64.wrap (4 * IntKind.i64.wrap (floorsI c.floors - 1)) + IntKind.i64.wrap (floorsI c.floors * IntKind.i64.wrap (IntKind.i64.wrap (IntKind.i64.wrap (2 * mm true c.door 1) + mm true c.dwell 1) + 4)))) ∧ IntKind.i64.wrap (5 * IntKind.i64.wrap (IntKind.i64.wrap (4 * IntKind.i64.wrap (floorsI c.floors - 1)) + IntKind.i64.wrap (floorsI c.floors * IntKind.i64.wrap (IntKind.i64.wrap (IntKind.i64.wrap (2 * mm true c.door 1) + mm true c.dwell 1) + 4)))) ≤ 10000000 := by rw [hN]; rw [hmul] at hQ; omega
  clear hbud hst hN
  generalize IntKind.i64.wrap (5 * IntKind.i64.wrap (IntKind.i64.wrap (4 * IntKind.i64.wrap (floorsI c.floors - 1)) + IntKind.i64.wrap (floorsI c.floors * IntKind.i64.wrap (IntKind.i64.wrap (IntKind.i64.wrap (2 * mm true c.door 1) + mm true c.dwell 1) + 4)))) = N at *
  rintro ⟨x, i⟩ ⟨⟨h0, h1⟩, hs, hB⟩
  simp only at h0 h1 hs hB
  refine (v14b_vc c N x i _ _).mpr ?_
  refine cnd_iff.2 ⟨fun hi => ?_, fun hi => ?_⟩
  · have hi : i < N := of_decide_eq_true hi
    rw [wrap_id (n := i + 1) (by omega) (by omega)]
    obtain ⟨s1, s2⟩ := serves_tick hs hB
    refine ⟨⟨hs.2.2.1, good_mild (may_iff.1 hs.1).1⟩, ?_⟩
    exact ⟨(tickCar c x, i + 1), ⟨⟨by simp only; omega, by simp only; omega⟩, s1, by simp only; rw [show N - (i + 1) = N - i - 1 by omega]; exact s2⟩, by simp only; omega, rfl, rfl⟩
  · have hi : ¬ i < N := of_decide_eq_false hi
    have he := bud_end hs hB (by omega)
    exact ⟨fun _ => hs.2.2.1, ends_pl (by rw [he]; rfl)⟩
theorem tb70_ok : GamOk Try.prog eid (gam tb70) := gam_cons h14 tb69_ok
end Go.Proofs.Ytjbdabpjepjohaa
