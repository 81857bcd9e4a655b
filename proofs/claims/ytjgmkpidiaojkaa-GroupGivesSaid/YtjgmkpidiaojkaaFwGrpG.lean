/- The functions of this group answer so. -/
import Derived.Test.YtjgmkpidiaojkaaFwGrpGV
import Derived.Test.YtjgmkpidiaojkaaFwGrpL
set_option linter.unusedVariables false
set_option linter.unusedSimpArgs false
set_option maxRecDepth 20000
set_option maxHeartbeats 4000000
namespace Go.Proofs.Ytjgmkpidiaojkaa
open Lw
attribute [local irreducible] Lw.vc Lw.vcFunc
theorem cnt_bit : ∀ (n x i : Nat), i < n → x.testBit i = true → 1 ≤ cnt n x
  | 0, _, _, h, _ => absurd h (Nat.not_lt_zero _)
  | n + 1, x, 0, _, h => by
    rw [Nat.testBit_zero, decide_eq_true_eq] at h
    rw [cnt_succ]; omega
  | n + 1, x, i + 1, hi, h => by
    rw [Nat.testBit_succ] at h
    have := cnt_bit n (x / 2) i (by omega) h
    rw [cnt_succ]; omega
theorem ones_zero {s : Lw.Stops} (h : onesI s = 0) (f w : Int) : hallB s f w = false := by
  cases hb : hallB s f w
  · rfl
  · exfalso
    have one {a g : Int} (hh : hasB a g = true) : 1 ≤ cntI a := by
      rw [has_tb, Bool.and_eq_true, decide_eq_true_eq] at hh
      have := cnt_bit 64 a.toNat g.toNat (by omega) hh.2
      unfold cntI; omega
    have nn (a : Int) : 0 ≤ cntI a := by unfold cntI; omega
    have p1 := nn s.press; have p2 := nn s.up; have p3 := nn s.down
    unfold hallB at hb
    unfold onesI at h
    rw [Bool.or_eq_true, Bool.and_eq_true, Bool.and_eq_true] at hb
    rcases hb with hb | hb
    · have := one hb.2; omega
    · have := one hb.2; omega
def WOk (cars : List Lw.Car) (w : Lw.Wait) : Prop := (w.way = 1 ∨ w.way = 2) ∧ (0 ≤ w.floor ∧ w.floor < 64) ∧ (w.car < 0 ∨ ((0 ≤ w.car ∧ w.car < cars.length) ∧ (atC cars w.car).mode = 0 ∧ (atC cars w.car).broken = false ∧ hallB (atC cars w.car).stops w.floor w.way = true))
def WInv (cars : List Lw.Car) (ws : List Lw.Wait) : Prop := ∀ w ∈ ws, WOk cars w
theorem atC_mod {cars : List Lw.Car} {n m : Int} {x : Lw.Car} (hn : 0 ≤ n ∧ n < cars.length) (hm : 0 ≤ m) : atC (modC cars n x) m = if m = n then x else atC cars m := by
  unfold atC modC
  rw [List.getD_eq_getElem?_getD, List.getElem?_set]
  by_cases h : m = n
  · subst h; rw [if_pos rfl, if_pos (by omega), if_pos rfl]; rfl
  · rw [if_neg (by omega), if_neg h, ← List.getD_eq_getElem?_getD]
theorem wok_mod {cars : List Lw.Car} {w : Lw.Wait} {n : Int} {x : Lw.Car} (h : WOk cars w) (hn : 0 ≤ n ∧ n < cars.length)
    (hx : (atC cars n).mode = 0 → (atC cars n).broken = false → hallB (atC cars n).stops w.floor w.way = true → x.mode = 0 ∧ x.broken = false ∧ hallB x.stops w.floor w.way = true) : WOk (modC cars n x) w := by
  refine ⟨h.1, h.2.1, ?_⟩
  rcases h.2.2 with h | ⟨hr, h1, h2, h3⟩
  · exact .inl h
  · refine .inr ⟨by unfold modC; rw [List.length_set]; exact hr, ?_⟩
    rw [atC_mod hn hr.1]
    by_cases e : w.car = n
    · rw [if_pos e]
      rw [e] at h1 h2 h3
      exact hx h1 h2 h3
    · rw [if_neg e]; exact ⟨h1, h2, h3⟩
theorem w_hall {c : Config} {cars : List Lw.Car} {ws : List Lw.Wait} (now f w : Int) (h : WInv cars ws) : WInv cars (hallW c ws now f w) := by
  unfold hallW
  split
  · rename_i he
    intro v hv
    rcases List.mem_append.1 hv with hv | hv
    · exact h v hv
    · rw [List.mem_singleton] at hv
      subst hv
      have hE := he.1
      unfold hallE at hE
      cases hf : floorB c f
      · rw [hf, if_pos rfl] at hE; omega
      · have := floorB_iff hf
        rw [hf, if_neg (by decide)] at hE
        refine ⟨?_, by simp only; omega, .inl (show (-1 : Int) < 0 by decide)⟩
        by_cases h1 : w = 1
        · exact .inl h1
        · by_cases h2 : w = 2
          · exact .inr h2
          · rw [if_neg h1, if_neg h2] at hE; omega
  · exact h
theorem w_press {c : Config} {cars : List Lw.Car} {ws : List Lw.Wait} (n f : Int) (h : WInv cars ws) : WInv (pressL c cars n f) ws := by
  unfold pressL
  split
  · rename_i e
    have ho : okC c cars n f = true := by
      cases ho : okC c cars n f
      · unfold pressE at e; rw [ho, if_pos rfl] at e; omega
      · rfl
    have hi := okC_iff ho
    exact fun w hw => wok_mod (h w hw) ⟨hi.1, hi.2.1⟩ fun h1 h2 h3 => ⟨h1, h2, h3⟩
  · exact h
theorem w_load {c : Config} {cars : List Lw.Car} {ws : List Lw.Wait} (n kg : Int) (h : WInv cars ws) : WInv (loadL c cars n kg) ws := by
  unfold loadL
  split
  · rename_i ho
    have hi := okC_iff ho
    exact fun w hw => wok_mod (h w hw) ⟨hi.1, hi.2.1⟩ fun h1 h2 h3 => ⟨h1, h2, h3⟩
  · exact h
theorem w_curt {c : Config} {cars : List Lw.Car} {ws : List Lw.Wait} (n : Int) (b : Bool) (h : WInv cars ws) : WInv (curtL c cars n b) ws := by
  unfold curtL
  split
  · rename_i ho
    have hi := okC_iff ho
    exact fun w hw => wok_mod (h w hw) ⟨hi.1, hi.2.1⟩ fun h1 h2 h3 => ⟨h1, h2, h3⟩
  · exact h
theorem w_fault {c : Config} {cars : List Lw.Car} {ws : List Lw.Wait} (n : Int) (b : Bool) (h : WInv cars ws) : WInv (faultL c cars n b) (faultW c cars ws n b) := by
  unfold faultL faultW
  cases ho : okC c cars n 0
  · rw [if_neg (by decide), if_neg (by simp)]; exact h
  · have hi := okC_iff ho
    rw [if_pos rfl]
    cases b
    · rw [if_neg (by simp)]
      exact fun w hw => wok_mod (h w hw) ⟨hi.1, hi.2.1⟩ fun h1 h2 h3 => ⟨h1, rfl, h3⟩
    · rw [if_pos ⟨rfl, rfl⟩]
      intro v hv
      obtain ⟨w, hw, rfl⟩ := List.mem_map.1 hv
      have hk := h w hw
      unfold freeW
      by_cases e : w.car = n
      · rw [if_pos e]
        exact ⟨hk.1, hk.2.1, .inl (show (-1 : Int) < 0 by decide)⟩
      · rw [if_neg e]
        refine ⟨hk.1, hk.2.1, ?_⟩
        rcases hk.2.2 with hk | ⟨hr, h1, h2, h3⟩
        · exact .inl hk
        · refine .inr ⟨by unfold modC; rw [List.length_set]; exact hr, ?_⟩
          rw [atC_mod ⟨hi.1, hi.2.1⟩ hr.1, if_neg e]
          exact ⟨h1, h2, h3⟩
theorem w_take {c : Config} {cars : List Lw.Car} {ws : List Lw.Wait} (n f : Int) (h : WInv cars ws) : WInv (takeL c cars n f) ws := by
  unfold takeL
  split
  · rename_i e
    have ho : okC c cars n f = true ∧ idleB (atC cars n) = true := by
      unfold takeE at e
      cases ho : okC c cars n f
      · rw [ho, if_pos rfl] at e; omega
      · rw [ho, if_neg (by decide)] at e
        by_cases hi : idleB (atC cars n) = true
        · exact ⟨rfl, hi⟩
        · rw [if_neg hi] at e; omega
    have hi := okC_iff ho.1
    have hz : onesI (atC cars n).stops = 0 := by
      have := ho.2
      unfold idleB at this
      simp only [Bool.and_eq_true, decide_eq_true_eq] at this
      exact this.2.2.2.2.2
    exact fun w hw => wok_mod (h w hw) ⟨hi.1, hi.2.1⟩ fun h1 h2 h3 => by rw [ones_zero hz] at h3; cases h3
  · exact h
theorem w_aim {c : Config} {cars : List Lw.Car} {ws : List Lw.Wait} (n f : Int) (b : Bool) (h : WInv cars ws) : WInv (aimL c cars n f b) ws := by
  unfold aimL
  split
  · rename_i e
    have ho := aimE_ok e
    have hi := okC_iff ho.1
    exact fun w hw => wok_mod (h w hw) ⟨hi.1, hi.2.1⟩ fun h1 h2 h3 => ⟨h1, h2, h3⟩
  · exact h
theorem w_give {c : Config} {cars : List Lw.Car} {ws : List Lw.Wait} (n : Int) (h : WInv cars ws) : WInv (giveL c cars n) ws := by
  unfold giveL
  split
  · rename_i e
    have ho := aimE_ok e
    have hi := okC_iff ho.1
    exact fun w hw => wok_mod (h w hw) ⟨hi.1, hi.2.1⟩ fun h1 _ _ => absurd (h1.symm.trans ho.2) (by decide)
  · exact h
theorem w_do {c : Config} {cars : List Lw.Car} {ws : List Lw.Wait} (now : Int) (o : Lw.GOp) (h : WInv cars ws) : WInv (doC c cars o) (doW c cars ws now o) := by
  by_cases h1 : o.kind = 1
  · rw [show doC c cars o = cars by simp [doC, h1], show doW c cars ws now o = hallW c ws now o.a o.b by simp [doW, h1]]
    exact w_hall _ _ _ h
  by_cases h5 : o.kind = 5
  · rw [show doC c cars o = faultL c cars o.a o.yes by simp [doC, h5], show doW c cars ws now o = faultW c cars ws o.a o.yes by simp [doW, h5]]
    exact w_fault _ _ h
  rw [show doW c cars ws now o = ws by simp [doW, h1, h5]]
  unfold doC
  repeat' split
  all_goals first
    | exact h
    | exact w_press _ _ h
    | exact w_load _ _ h
    | exact w_curt _ _ h
    | (exfalso; simp_all; done)
    | exact w_take _ _ h
    | exact w_aim _ _ _ h
    | exact w_give _ h
theorem best_usable {c : Config} {l : List Lw.Car} {k : Lw.Call} : ∀ n : Nat, bestN c l k n ≥ 0 → (l.getD (bestN c l k n).toNat zeroC).mode = 0 ∧ (l.getD (bestN c l k n).toNat zeroC).broken = false
  | 0, h => by unfold bestN at h; omega
  | n + 1, h => by
    unfold bestN at h ⊢
    cases hg : goodFor c l k (bestN c l k n) (l.getD n (RTy.zero .car))
    · rw [hg] at h
      simp only [cond_false] at h ⊢
      exact best_usable n h
    · simp only [cond_true, Int.toNat_natCast]
      unfold goodFor at hg
      rw [decide_eq_true_eq] at hg
      exact ⟨hg.1, hg.2.1⟩
theorem best_exists {c : Config} {l : List Lw.Car} {k : Lw.Call} : ∀ (n i : Nat), i < n → (l.getD i zeroC).mode = 0 → (l.getD i zeroC).broken = false → bestN c l k n ≥ 0
  | 0, _, h, _, _ => absurd h (Nat.not_lt_zero _)
  | n + 1, i, h, hm, hb => by
    unfold bestN
    cases hg : goodFor c l k (bestN c l k n) (l.getD n (RTy.zero .car))
    · simp only [cond_false]
      by_cases e : i = n
      · subst e
        unfold goodFor at hg
        rw [decide_eq_false_iff_not] at hg
        by_cases hz : bestN c l k i < 0
        · exact absurd ⟨hm, hb, .inl hz⟩ hg
        · omega
      · exact best_exists n i (by omega) hm hb
    · simp only [cond_true]; omega
theorem hallS_self {s : Lw.Stops} (hs : stopsR s) {f w : Int} (hw : w = 1 ∨ w = 2) (hf : 0 ≤ f ∧ f < 64) : hallB (hallS s f w) f w = true := by
  unfold hallS hallB
  rcases hw with rfl | rfl
  · rw [if_pos rfl]
    simp only
    rw [has_or hs.2.1 (bitI_R f), has_bit]
    simp [hf.1, hf.2]
  · rw [if_neg (by decide), if_pos rfl]
    simp only
    rw [has_or hs.2.2 (bitI_R f), has_bit]
    simp [hf.1, hf.2]
theorem hallS_mono {s : Lw.Stops} (hs : stopsR s) {f w g v : Int} (h : hallB s g v = true) : hallB (hallS s f w) g v = true := by
  unfold hallS hallB at *
  split
  · simp only
    rw [has_or hs.2.1 (bitI_R f)]
    simp only [Bool.or_eq_true, Bool.and_eq_true] at h ⊢
    rcases h with h | h
    · exact .inl ⟨h.1, .inl h.2⟩
    · exact .inr h
  · split
    · simp only
      rw [has_or hs.2.2 (bitI_R f)]
      simp only [Bool.or_eq_true, Bool.and_eq_true] at h ⊢
      rcases h with h | h
      · exact .inl h
      · exact .inr ⟨h.1, .inl h.2⟩
    · exact h
theorem getD_memW {ws : List Lw.Wait} {k : Nat} (h : k < ws.length) : ws.getD k zeroW ∈ ws := getD_mem h _
theorem w_assign {c : Config} {cars : List Lw.Car} {ws : List Lw.Wait} (hI : GInv c cars) (h : WInv cars ws) : ∀ k : Nat, k ≤ ws.length → WInv (assignN c cars ws k).1 (assignN c cars ws k).2
  | 0, _ => h
  | k + 1, hk => by
    have ih := w_assign hI h k (by omega)
    have hg := gInv_assign ws hI k
    unfold assignN
    split
    · exact ih
    · split
      · rename_i hb
        have hr := best_range c (assignN c cars ws k).1 ⟨(ws.getD k zeroW).floor, (ws.getD k zeroW).way⟩
        have hu := best_usable (c := c) (l := (assignN c cars ws k).1) (k := ⟨(ws.getD k zeroW).floor, (ws.getD k zeroW).way⟩) (assignN c cars ws k).1.length hb
        have hw := h _ (getD_memW (show k < ws.length by omega))
        change (atC (assignN c cars ws k).1 (bestI c (assignN c cars ws k).1 ⟨(ws.getD k zeroW).floor, (ws.getD k zeroW).way⟩)).mode = 0 ∧ (atC (assignN c cars ws k).1 (bestI c (assignN c cars ws k).1 ⟨(ws.getD k zeroW).floor, (ws.getD k zeroW).way⟩)).broken = false at hu
        generalize bestI c (assignN c cars ws k).1 ⟨(ws.getD k zeroW).floor, (ws.getD k zeroW).way⟩ = b at hb hr hu ⊢
        have hs := (hg.2 _ (atC_mem hb hr.2)).2
        intro v hv
        simp only at hv ⊢
        rcases List.mem_or_eq_of_mem_set hv with hv | rfl
        · exact wok_mod (ih v hv) ⟨hb, hr.2⟩ fun h1 h2 h3 => ⟨h1, h2, hallS_mono hs h3⟩
        · refine ⟨hw.1, hw.2.1, .inr ⟨by unfold modC; rw [List.length_set]; exact ⟨hb, hr.2⟩, ?_⟩⟩
          simp only [takesW]
          rw [atC_mod ⟨hb, hr.2⟩ hb, if_pos rfl]
          exact ⟨hu.1, hu.2, hallS_self hs hw.1 hw.2.1⟩
      · exact ih
def usableC (x : Lw.Car) : Prop := x.mode = 0 ∧ x.broken = false
theorem assign_all {c : Config} {cars : List Lw.Car} {ws : List Lw.Wait} (hm : mildL cars) (hu : ∃ i : Nat, i < cars.length ∧ usableC (cars.getD i zeroC)) : ∀ (k j : Nat), j < k → j < ws.length → ((assignN c cars ws k).2.getD j zeroW).car ≥ 0
  | 0, _, h, _ => absurd h (Nat.not_lt_zero _)
  | k + 1, j, h, hj => by
    have hg := assign_get c cars ws k
    have hl := assign_mild c ws hm k
    have ih := assign_all (c := c) (ws := ws) hm hu k
    have hb : bestI c (assignN c cars ws k).1 ⟨(ws.getD k zeroW).floor, (ws.getD k zeroW).way⟩ ≥ 0 := by
      obtain ⟨i, hi, hx⟩ := hu
      obtain ⟨s, hs⟩ := assign_same c cars ws (i : Int) k
      have e : (assignN c cars ws k).1.getD i zeroC = setStops (cars.getD i zeroC) s := by
        have := hs; unfold atC at this; rw [Int.toNat_natCast] at this; exact this
      exact best_exists _ i (by rw [hl.2.1]; exact hi) (by rw [e]; exact hx.1) (by rw [e]; exact hx.2)
    unfold assignN
    split
    · rename_i hc
      by_cases e : j = k
      · subst e; rw [hg j (Nat.le_refl _)]; exact hc
      · exact ih j (by omega) hj
    · try rw [if_pos hb]
      simp only
      rw [List.getD_eq_getElem?_getD, List.getElem?_set]
      by_cases e : k = j
      · rw [if_pos e, if_pos (by rw [hl.2.2]; omega)]; exact hb
      · rw [if_neg e, ← List.getD_eq_getElem?_getD]; exact ih j (by omega) hj
theorem waves_mem {c : Config} {A : List Lw.Car} {W : List Lw.Wait} {v : Lw.Wait} : ∀ k : Nat, v ∈ (wavesN c A W k).1 → v ∈ W ∧ ∀ j, j < k → ¬ (tickSv c (A.getD j zeroC) = true ∧ callP (tickCall c (A.getD j zeroC)) v = true)
  | 0, h => ⟨h, fun j hj => absurd hj (Nat.not_lt_zero j)⟩
  | k + 1, h => by
    unfold wavesN at h
    split at h
    · rename_i hs
      simp only [keepW, List.mem_filter, Bool.not_eq_true'] at h
      have ih := waves_mem k h.1
      refine ⟨ih.1, fun j hj => ?_⟩
      by_cases e : j = k
      · subst e; exact fun z => absurd (z.2.symm.trans h.2) (by decide)
      · exact ih.2 j (by omega)
    · rename_i hs
      have ih := waves_mem k h
      refine ⟨ih.1, fun j hj => ?_⟩
      by_cases e : j = k
      · subst e; exact fun z => hs z.1
      · exact ih.2 j (by omega)
theorem clear_other {s : Lw.Stops} (hs : stopsR s) {f w f0 q : Int} (hw : w = 1 ∨ w = 2) (hn : ¬ (f = f0 ∧ w = q)) (h : hallB s f w = true) : hallB (clearS s f0 q) f w = true := by
  unfold hallB clearS at *
  rcases hw with rfl | rfl
  · simp only [Int.reduceEq, decide_true, decide_false, Bool.true_and, Bool.false_and, Bool.or_false] at h ⊢
    split
    · rename_i e
      rw [has_andNot hs.2.1 (bitI_R f0), has_bit, h]
      have : ¬ f = f0 := fun z => hn ⟨z, e.symm⟩
      simp [this]
    · exact h
  · simp only [Int.reduceEq, decide_true, decide_false, Bool.true_and, Bool.false_and, Bool.false_or] at h ⊢
    split
    · rename_i e
      rw [has_andNot hs.2.2 (bitI_R f0), has_bit, h]
      have : ¬ f = f0 := fun z => hn ⟨z, e.symm⟩
      simp [this]
    · exact h
theorem tick_hall {c : Config} {x : Lw.Car} (hs : stopsR x.stops) {f w : Int} (hw : w = 1 ∨ w = 2) (hb : hallB x.stops f w = true) (hn : ¬ (tickSv c x = true ∧ (tickCall c x).floor = f ∧ (tickCall c x).way = w)) : hallB (tickCar c x).stops f w = true := by
  have e : (tickCar c x).stops = (ctlT c x).car.stops := by unfold tickCar; rw [stepC_stops]
  rw [e]
  have hcase : (ctlT c x).car.stops = x.stops ∨ ∃ f0 q, (ctlT c x).car.stops = clearS x.stops f0 q ∧ (ctlT c x).sv = hallB x.stops f0 q ∧ (ctlT c x).call = ⟨f0, q⟩ := by
    unfold ctlT
    split
    · exact .inl rfl
    · split
      · unfold leasedT
        (repeat' split) <;> exact .inl rfl
      · unfold normalT
        split
        · exact .inl rfl
        · split
          · unfold standT
            (repeat' split)
            · exact .inr ⟨_, _, rfl, rfl, rfl⟩
            · exact .inl rfl
            · exact .inl rfl
          · (repeat' split) <;> exact .inl rfl
  rcases hcase with h | ⟨f0, q, h1, h2, h3⟩
  · rw [h]; exact hb
  · rw [h1]
    refine clear_other hs hw (fun z => hn ?_) hb
    have hsv : (ctlT c x).sv = true := by rw [h2, ← z.1, ← z.2]; exact hb
    refine ⟨hsv, ?_⟩
    unfold tickCall
    rw [if_pos hsv, h3]
    exact ⟨z.1.symm, z.2.symm⟩
theorem w_tick {c : Config} {cars : List Lw.Car} {ws : List Lw.Wait} (hI : GInv c cars) (h : WInv cars ws) : WInv (tickL c cars ws) (tickW c cars ws) ∧ ((∃ i : Nat, i < cars.length ∧ usableC (cars.getD i zeroC)) → ∀ w ∈ tickW c cars ws, 0 ≤ w.car) := by
  have ha := w_assign hI h ws.length (Nat.le_refl _)
  have hg := gInv_assign ws hI ws.length
  have hm := assign_mild c ws (gInv_mild hI) ws.length
  have hal := assign_all (c := c) (ws := ws) (gInv_mild hI)
  rw [show assignN c cars ws ws.length = assignG c cars ws from rfl] at ha hg hm
  refine ⟨fun v hv => ?_, fun hu v hv => ?_⟩
  · unfold tickW at hv
    obtain ⟨hv, hno⟩ := waves_mem _ hv
    obtain ⟨k1, k2, k3⟩ := ha v hv
    refine ⟨k1, k2, ?_⟩
    rcases k3 with k3 | ⟨hr, h1, h2, h3⟩
    · exact .inl k3
    · refine .inr ⟨by unfold tickL; rw [List.length_map]; exact hr, ?_⟩
      rw [tick_at c cars ws (by omega)]
      have hx := hg.2 _ (atC_mem hr.1 hr.2)
      have hsm := tick_same c (atC (assignG c cars ws).1 v.car)
      refine ⟨by rw [hsm.1]; exact h1, by rw [hsm.2.2.1]; exact h2, tick_hall hx.2 k1 h3 fun z => hno v.car.toNat (by omega) ⟨z.1, ?_⟩⟩
      unfold callP
      rw [Bool.and_eq_true, beq_iff_eq, beq_iff_eq]
      exact ⟨z.2.1.symm, z.2.2.symm⟩
  · unfold tickW at hv
    obtain ⟨hv, _⟩ := waves_mem _ hv
    obtain ⟨j, hj, rfl⟩ := List.getElem_of_mem hv
    have := hal hu ws.length j (by rw [hm.2.2] at hj; exact hj) (by rw [hm.2.2] at hj; exact hj)
    rw [show assignN c cars ws ws.length = assignG c cars ws from rfl, List.getD_eq_getElem?_getD, List.getElem?_eq_getElem hj] at this
    exact this
theorem h4 : Holds Try.prog eid 4 (lawGS) := by
  refine hold tb85_ok Try.func4 (by kernel_rfl) ?_ (by kernel_rfl)
  intro xs M t h
  unfold lawGS at h
  split at h
  case h_2 => cases h
  rename_i kc ops
  obtain ⟨c, hc, h1⟩ := Option.bind_eq_some_iff.1 h
  clear h
  cases Lw.Config.of_eq hc
  cases h1
  refine ⟨updN, ?_⟩
  intro hp
  have hp : ops.length ≤ Go.maxLen := hp
  have hmx := maxLen_eq
  have hbig : bigRow = 1073741824 := rfl
  rw [v4_vc]
  refine loopVC_selD (S := List Lw.Car × List Lw.Wait × Int × Int) v4b_m (fun s => v4b_fr c ops s.1 s.2.1 s.2.2.1 s.2.2.2) (fun s => v4b_mem c ops s.1 s.2.1 s.2.2.1 s.2.2.2) (fun s => (ops.length - s.2.2.2).toNat) (fun s => (0 ≤ s.2.2.2 ∧ s.2.2.2 ≤ ops.length) ∧ (GInv c s.1 ∧ WInv s.1 s.2.1) ∧ ((s.2.1.length : Int) ≤ s.2.2.2 ∧ s.2.2.2 ≤ 80)) ⟨[], [some 0, some 1, some 2, some 3], (List.replicate (carsI c).toNat car0, [], 0, 0), ⟨by simp, ⟨gInv_new c, fun w hw => by simp at hw⟩, by simp⟩, _, rfl, rfl, rfl, rfl⟩ ?_
  rintro ⟨cars, ws, now, i⟩ ⟨⟨h0, h1⟩, ⟨hI, hW⟩, hl, hl2⟩
  simp only at h0 h1 hI hW hl hl2
  refine (v4b_vc c ops cars ws now i _ _).mpr ?_
  rw [c_and]
  refine cnd_iff.2 ⟨fun hi => ?_, fun _ => ends_pl rfl⟩
  have hi : i < ops.length ∧ i < 80 := by rw [Bool.and_eq_true, decide_eq_true_eq, decide_eq_true_eq] at hi; exact hi
  rw [wrap_id (n := i + 1) (by omega) (by omega)]
  generalize (ops.getD i.toNat (RTy.zero .gop) : Lw.GOp) = o
  refine ⟨⟨h0, hi.1⟩, cnd_iff.2 ⟨fun _ => ⟨⟨gInv_mild hI, by omega⟩, ?_⟩, fun _ => ?_⟩⟩
  · have := doW_len c cars ws now o
    exact ⟨[], [some 0, some 1, some 2, some 5], (doC c cars o, doW c cars ws now o, now, i + 1), ⟨⟨⟨by simp only; omega, by simp only; omega⟩, ⟨gInv_do o hI, w_do now o hW⟩, by simp only; omega, by simp only; omega⟩, by simp only; omega⟩, _, rfl, rfl, rfl, rfl⟩
  · refine loopVC_selD (S := List Lw.Car × List Lw.Wait × Int × Int) v4c_m (fun s => v4c_fr c ops s.1 s.2.1 s.2.2.1 i s.2.2.2 o) (fun s => v4c_mem c ops s.1 s.2.1 s.2.2.1 i s.2.2.2 o) (fun s => (50 - s.2.2.2).toNat) (fun s => (0 ≤ s.2.2.2 ∧ s.2.2.2 ≤ 50) ∧ (GInv c s.1 ∧ WInv s.1 s.2.1) ∧ ((s.2.1.length : Int) ≤ i)) ⟨[], [some 0, some 1, some 2, some 3, some 4], (cars, ws, now, 0), ⟨by simp, ⟨hI, hW⟩, hl⟩, _, rfl, rfl, rfl, rfl⟩ ?_
    rintro ⟨cars, ws, now, k⟩ ⟨⟨k0, k1⟩, ⟨hI, hW⟩, hl⟩
    simp only at k0 k1 hI hW hl
    refine (v4c_vc c ops cars ws now i k o _ _ _).mpr ?_
    rw [c_and, wrap_id (n := i + 1) (by omega) (by omega)]
    refine cnd_iff.2 ⟨fun hk => ?_, fun _ => ⟨[], [some 0, some 1, some 2, some 3], (cars, ws, now, i + 1), ⟨⟨⟨by simp only; omega, by simp only; omega⟩, ⟨hI, hW⟩, by simp only; omega, by simp only; omega⟩, by simp only; omega⟩, _, rfl, rfl, rfl, rfl⟩⟩
    have hk : k < o.a ∧ k < 50 := by rw [Bool.and_eq_true, decide_eq_true_eq, decide_eq_true_eq] at hk; exact hk
    have hm := gInv_mild hI
    have hT := gInv_tick ws hI
    have hlT := gInv_len hT
    have hw := tickW_len (c := c) ws hm
    obtain ⟨hV, hU⟩ := w_tick hI hW
    have hU2 : (∃ i : Nat, i < (tickL c cars ws).length ∧ usableC ((tickL c cars ws).getD i zeroC)) → ∀ w ∈ tickW c cars ws, 0 ≤ w.car := by
      rintro ⟨j, hj, hx⟩
      refine hU ⟨j, by have := hI.1; have := hT.1; omega, ?_⟩
      have hlA : j < (assignG c cars ws).1.length := by unfold tickL at hj; rw [List.length_map] at hj; exact hj
      have e := tick_at c cars ws (n := (j : Int)) (by rw [Int.toNat_natCast]; exact hlA)
      obtain ⟨s, hs⟩ := assign_same c cars ws (j : Int) ws.length
      rw [show assignN c cars ws ws.length = assignG c cars ws from rfl] at hs
      have hsm := tick_same c (atC (assignG c cars ws).1 (j : Int))
      unfold atC at e hs hsm
      rw [Int.toNat_natCast] at e hs hsm
      rw [e] at hx
      unfold usableC at hx ⊢
      rw [hsm.1, hsm.2.2.1, hs] at hx
      exact hx
    refine ⟨⟨hm, by omega⟩, by omega, by omega, ?_⟩
    generalize tickL c cars ws = cs2 at hT hlT hV hU2 ⊢
    generalize tickW c cars ws = ws2 at hw hV hU2 ⊢
    refine loopVC_selD (S := Int × Bool) v4d_m (fun t => v4d_fr c ops cs2 ws2 (addT now 1) i k t.1 t.2 o) (fun t => v4d_mem c ops cs2 ws2 (addT now 1) i k t.1 t.2 o) (fun t => (cs2.length - t.1).toNat) (fun t => (0 ≤ t.1 ∧ t.1 ≤ cs2.length) ∧ (t.2 = true → ∃ i : Nat, i < cs2.length ∧ usableC (cs2.getD i zeroC))) ⟨[], [some 0, some 1, some 2, some 5, some 4, some 7, some 8], (0, false), ⟨by simp, fun h => absurd h (by decide)⟩, _, rfl, rfl, rfl, rfl⟩ ?_
    rintro ⟨n, s⟩ ⟨⟨n0, n1⟩, hs⟩
    simp only at n0 n1 hs
    refine (v4d_vc c ops cs2 ws2 (addT now 1) i k n s o _ _ _ _).mpr ?_
    rw [wrap_id (n := n + 1) (by omega) (by omega), zeroC_eq]
    refine cnd_iff.2 ⟨fun hn => ?_, fun _ => ?_⟩
    · have hn : n < cs2.length := of_decide_eq_true hn
      refine cnd_iff.2 ⟨fun h => ⟨[], [some 0, some 1, some 2, some 3, some 4, some 5, some 6], (n + 1, true), ⟨⟨by simp only; omega, fun _ => hs h⟩, by simp only; omega⟩, _, rfl, rfl, rfl, rfl⟩, fun h => ⟨⟨n0, hn⟩, cnd_iff.2 ⟨fun h2 => ⟨⟨n0, hn⟩, ?_⟩, fun h2 => ?_⟩⟩⟩
      · exact ⟨[], [some 0, some 1, some 2, some 3, some 4, some 5, some 6], (n + 1, !(cs2.getD n.toNat zeroC).broken), ⟨⟨by simp only; omega, fun h3 => ⟨n.toNat, by omega, beq_iff_eq.1 h2, by simpa using h3⟩⟩, by simp only; omega⟩, _, rfl, rfl, rfl, rfl⟩
      · exact ⟨[], [some 0, some 1, some 2, some 3, some 4, some 5, some 6], (n + 1, false), ⟨⟨by simp only; omega, fun h3 => nomatch (show false = true from h3)⟩, by simp only; omega⟩, _, rfl, rfl, rfl, rfl⟩
    · refine loopVC_selD (S := Int) v4e_m (fun n => v4e_fr c ops cs2 ws2 (addT now 1) i k n s o) (fun n => v4e_mem c ops cs2 ws2 (addT now 1) i k n s o) (fun n => (ws2.length - n).toNat) (fun n => 0 ≤ n ∧ n ≤ ws2.length) ⟨[], [some 0, some 1, some 2, some 3, some 4, some 5, some 6], 0, ⟨by simp, by simp⟩, _, rfl, rfl, rfl, rfl⟩ ?_
      clear n0 n1
      rintro n ⟨n0, n1⟩
      refine (v4e_vc c ops cs2 ws2 (addT now 1) i k n s o _ _ _ _).mpr ?_
      rw [wrap_id (n := n + 1) (by omega) (by omega), wrap_id (n := k + 1) (by omega) (by omega), zeroC_eq, zeroW_eq]
      refine cnd_iff.2 ⟨fun hn => ?_, fun _ => ⟨[], [some 0, some 1, some 2, some 3, some 4], (cs2, ws2, addT now 1, k + 1), ⟨⟨⟨by simp only; omega, by simp only; omega⟩, ⟨hT, hV⟩, by simp only; omega⟩, by simp only; omega⟩, _, rfl, rfl, rfl, rfl⟩⟩
      have hn : n < ws2.length := of_decide_eq_true hn
      have hmem := getD_memW (ws := ws2) (k := n.toNat) (by omega)
      obtain ⟨k1', k2', k3'⟩ := hV _ hmem
      have hpos : s = true → 0 ≤ (ws2.getD n.toNat zeroW).car := fun h => hU2 (hs h) _ hmem
      generalize ws2.getD n.toNat zeroW = w at k1' k2' k3' hpos ⊢
      have rn : 0 ≤ n ∧ n < ws2.length := ⟨n0, hn⟩
      by_cases hw0 : w.car < 0
      · have hsf : s = false := by cases s with | false => rfl | true => have := hpos rfl; omega
        rw [decide_eq_true hw0, decide_eq_false (show ¬ w.car ≥ 0 by omega), decide_eq_false (show ¬ w.car ≥ (cs2.length : Int) by omega), hsf]
        refine ⟨rn, ⟨rn, ⟨rn, ?_⟩⟩⟩
        exact ⟨[], [some 0, some 1, some 2, some 3, some 4, some 5, some 6], n + 1, ⟨⟨by omega, by omega⟩, by omega⟩, _, rfl, rfl, rfl, rfl⟩
      · have hk3 := k3'.resolve_left hw0
        obtain ⟨hr, m1, m2, m3⟩ := hk3
        have m1 : (cs2.getD w.car.toNat zeroC).mode = 0 := m1
        have m2 : (cs2.getD w.car.toNat zeroC).broken = false := m2
        have m3 : hallB (cs2.getD w.car.toNat zeroC).stops w.floor w.way = true := m3
        have hst : stopsR (cs2.getD w.car.toNat zeroC).stops := (hT.2 _ (atC_mem hr.1 hr.2)).2
        rw [decide_eq_false hw0, decide_eq_true (show w.car ≥ 0 by omega), decide_eq_false (show ¬ w.car ≥ (cs2.length : Int) by omega), m1, m2, m3]
        have last : ∀ {P Q : Prop}, Q → (0 ≤ n ∧ n < (ws2.length : Int)) ∧ cnd true ((0 ≤ n ∧ n < (ws2.length : Int)) ∧ (0 ≤ w.car ∧ w.car < (cs2.length : Int)) ∧ (0 ≤ n ∧ n < (ws2.length : Int)) ∧ (0 ≤ n ∧ n < (ws2.length : Int)) ∧ stopsR (cs2.getD w.car.toNat zeroC).stops ∧ cnd (!true) P Q) Q := fun hQ => ⟨rn, rn, hr, rn, rn, hst, hQ⟩
        cases s
        · refine ⟨rn, ⟨rn, ⟨rn, hr, ⟨rn, hr, last ?_⟩⟩⟩⟩
          exact ⟨[], [some 0, some 1, some 2, some 3, some 4, some 5, some 6], n + 1, ⟨⟨by omega, by omega⟩, by omega⟩, _, rfl, rfl, rfl, rfl⟩
        · refine ⟨rn, ⟨rn, ⟨rn, ⟨rn, hr, ⟨rn, hr, last ?_⟩⟩⟩⟩⟩
          exact ⟨[], [some 0, some 1, some 2, some 3, some 4, some 5, some 6], n + 1, ⟨⟨by omega, by omega⟩, by omega⟩, _, rfl, rfl, rfl, rfl⟩
theorem tb86_ok : GamOk Try.prog eid (gam tb86) := gam_cons h4 tb85_ok
end Go.Proofs.Ytjgmkpidiaojkaa
