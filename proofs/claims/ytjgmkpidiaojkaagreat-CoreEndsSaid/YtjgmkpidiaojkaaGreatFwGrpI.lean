/- The functions of this group answer so. -/
import Derived.Test.YtjgmkpidiaojkaaGreatFwGrpIV
import Derived.Test.YtjgmkpidiaojkaaGreatFwGrp
set_option linter.unusedVariables false
set_option linter.unusedSimpArgs false
set_option maxRecDepth 20000
set_option maxHeartbeats 4000000
namespace Go.Proofs.YtjgmkpidiaojkaaGreat
open Lw
attribute [local irreducible] Lw.vc Lw.vcFunc
theorem mild_new (n : Nat) (h : n ≤ 1000) : mildL (List.replicate n car0) := by
  refine ⟨by rw [List.length_replicate]; exact h, fun x hx => ?_⟩
  rw [List.eq_of_mem_replicate hx]
  unfold stopsR u64R mildC mildD r64 car0
  decide
theorem gInv_mild {c : Config} {cars : List Lw.Car} (h : GInv c cars) : mildL cars :=
  ⟨by have := (clampI_range (show (1 : Int) ≤ 8 by decide) c.cars).2; have := h.1; unfold carsI at *; omega, fun x hx => ⟨(h.2 x hx).2, good_mild (may_iff.1 (h.2 x hx).1).1⟩⟩
theorem gInv_len {c : Config} {cars : List Lw.Car} (h : GInv c cars) : 1 ≤ cars.length ∧ cars.length ≤ 8 := by
  have := clampI_range (show (1 : Int) ≤ 8 by decide) c.cars
  have := h.1
  unfold carsI at *
  omega
theorem gInv_new (c : Config) : GInv c (List.replicate (carsI c).toNat car0) := by
  have := clampI_range (show (1 : Int) ≤ 8 by decide) c.cars
  refine ⟨by rw [List.length_replicate]; unfold carsI at *; omega, fun x hx => ?_⟩
  rw [List.eq_of_mem_replicate hx]
  have hf := floorsI_range c.floors
  refine ⟨may_iff.2 ⟨?_, .inl rfl, .inl rfl, .inl (by decide)⟩, by unfold stopsR u64R car0; decide⟩
  unfold goodC goodD car0
  simp only [decide_eq_true_eq]
  refine ⟨by simp, by omega, by omega, by omega, by omega, by simp⟩
theorem gInv_mod {c : Config} {cars : List Lw.Car} {n : Int} {x : Lw.Car} (h : GInv c cars) (hx : mayB c x = true ∧ stopsR x.stops) : GInv c (modC cars n x) := by
  refine ⟨by unfold modC; rw [List.length_set]; exact h.1, fun y hy => ?_⟩
  unfold modC at hy
  rcases List.mem_or_eq_of_mem_set hy with hy | rfl
  · exact h.2 y hy
  · exact hx
theorem gInv_at {c : Config} {cars : List Lw.Car} {n f : Int} (h : GInv c cars) (ho : okC c cars n f = true) : mayB c (atC cars n) = true ∧ stopsR (atC cars n).stops := h.2 _ (atC_mem (okC_iff ho).1 (okC_iff ho).2.1)
theorem gInv_press {c : Config} {cars : List Lw.Car} (n f : Int) (h : GInv c cars) : GInv c (pressL c cars n f) := by
  unfold pressL
  split
  · rename_i e
    have ho : okC c cars n f = true := by
      cases ho : okC c cars n f
      · unfold pressE at e; rw [ho, if_pos rfl] at e; omega
      · rfl
    exact gInv_mod h ⟨(gInv_at h ho).1, press_r (gInv_at h ho).2 f⟩
  · exact h
theorem gInv_load {c : Config} {cars : List Lw.Car} (n kg : Int) (h : GInv c cars) : GInv c (loadL c cars n kg) := by
  unfold loadL
  split
  · rename_i ho; exact gInv_mod h (gInv_at h ho)
  · exact h
theorem gInv_curt {c : Config} {cars : List Lw.Car} (n : Int) (b : Bool) (h : GInv c cars) : GInv c (curtL c cars n b) := by
  unfold curtL
  split
  · rename_i ho; exact gInv_mod h (gInv_at h ho)
  · exact h
theorem gInv_fault {c : Config} {cars : List Lw.Car} (n : Int) (b : Bool) (h : GInv c cars) : GInv c (faultL c cars n b) := by
  unfold faultL
  split
  · rename_i ho
    refine gInv_mod h ⟨(gInv_at h ho).1, ?_⟩
    unfold setBrk
    simp only
    split
    · unfold stopsR u64R; decide
    · exact (gInv_at h ho).2
  · exact h
theorem idle_level {x : Lw.Car} (h : idleB x = true) : levelB x.unit = true := by
  unfold idleB at h
  rw [Bool.and_eq_true] at h
  exact h.1
theorem gInv_take {c : Config} {cars : List Lw.Car} (n f : Int) (h : GInv c cars) : GInv c (takeL c cars n f) := by
  unfold takeL
  split
  · rename_i e
    have ho : okC c cars n f = true ∧ idleB (atC cars n) = true := by
      unfold takeE at e
      cases ho : okC c cars n f
      · rw [ho, if_pos rfl] at e; omega
      · rw [ho, if_neg (by decide)] at e
        by_cases hi : idleB (atC cars n) = true
        · exact ⟨rfl, hi⟩
        · rw [if_neg hi] at e; omega
    have hm := gInv_at h ho.1
    have hf := floorB_iff (okC_iff ho.1).2.2
    obtain ⟨m1, m2, m3, m4⟩ := may_iff.1 hm.1
    exact gInv_mod h ⟨may_iff.2 ⟨m1, .inr rfl, .inl (show levelB (atC cars n).unit = true from idle_level ho.2), .inr ⟨hf.1, hf.2.1⟩⟩, hm.2⟩
  · exact h
theorem gInv_aim {c : Config} {cars : List Lw.Car} (n f : Int) (b : Bool) (h : GInv c cars) : GInv c (aimL c cars n f b) := by
  unfold aimL
  split
  · rename_i e
    have ho := aimE_ok e
    have hm := gInv_at h ho.1
    have hf := floorB_iff (okC_iff ho.1).2.2
    obtain ⟨m1, m2, m3, m4⟩ := may_iff.1 hm.1
    exact gInv_mod h ⟨may_iff.2 ⟨m1, m2, m3, .inr ⟨hf.1, hf.2.1⟩⟩, hm.2⟩
  · exact h
theorem gInv_give {c : Config} {cars : List Lw.Car} (n : Int) (h : GInv c cars) : GInv c (giveL c cars n) := by
  unfold giveL
  split
  · rename_i e
    have ho := aimE_ok e
    have hm := gInv_at h ho.1
    obtain ⟨m1, m2, m3, m4⟩ := may_iff.1 hm.1
    refine gInv_mod h ⟨may_iff.2 ⟨?_, .inl rfl, ?_, .inl (show (0 : Int) ≠ 1 by decide)⟩, hm.2⟩
    · unfold goodC setGive at *
      simp only [decide_eq_true_eq] at m1 ⊢
      refine ⟨m1.1, m1.2.1, m1.2.2.1, ?_, ?_, m1.2.2.2.2.2⟩ <;> split <;> omega
    · unfold setGive
      simp only
      rcases m3 with m3 | m3
      · exact .inl m3
      · by_cases hl : levelB (atC cars n).unit = true
        · exact .inl hl
        · right; rw [if_neg hl]; exact m3
  · exact h
theorem gInv_do {c : Config} {cars : List Lw.Car} (o : Lw.GOp) (h : GInv c cars) : GInv c (doC c cars o) := by
  unfold doC
  repeat' split
  all_goals first
    | exact h
    | exact gInv_press _ _ h
    | exact gInv_load _ _ h
    | exact gInv_curt _ _ h
    | exact gInv_fault _ _ h
    | exact gInv_take _ _ h
    | exact gInv_aim _ _ _ h
    | exact gInv_give _ h
theorem hallW_len (c : Config) (ws : List Lw.Wait) (now f w : Int) : (hallW c ws now f w).length ≤ ws.length + 1 := by
  unfold hallW
  split
  · simp
  · omega
theorem doW_len (c : Config) (cars : List Lw.Car) (ws : List Lw.Wait) (now : Int) (o : Lw.GOp) : (doW c cars ws now o).length ≤ ws.length + 1 := by
  unfold doW faultW
  repeat' split
  all_goals first
    | exact hallW_len _ _ _ _ _
    | (simp only [List.length_map]; omega)
    | omega
theorem gInv_assign {c : Config} {cars : List Lw.Car} (ws : List Lw.Wait) (h : GInv c cars) : ∀ k : Nat, GInv c (assignN c cars ws k).1
  | 0 => h
  | k + 1 => by
    have ih := gInv_assign ws h k
    unfold assignN
    split
    · exact ih
    · split
      · rename_i hb
        have hr := best_range c (assignN c cars ws k).1 ⟨(ws.getD k zeroW).floor, (ws.getD k zeroW).way⟩
        have hm := ih.2 _ (atC_mem hb hr.2)
        exact gInv_mod ih ⟨hm.1, hall_r hm.2 _ _⟩
      · exact ih
theorem gInv_tick {c : Config} {cars : List Lw.Car} (ws : List Lw.Wait) (h : GInv c cars) : GInv c (tickL c cars ws) := by
  have ha := gInv_assign ws h ws.length
  refine ⟨by unfold tickL; rw [List.length_map]; exact ha.1, fun x hx => ?_⟩
  unfold tickL at hx
  obtain ⟨y, hy, rfl⟩ := List.mem_map.1 hx
  have := tick_may (ha.2 y hy).1 (ha.2 y hy).2
  exact ⟨this.1, this.2.1⟩
theorem tickW_len {c : Config} {cars : List Lw.Car} (ws : List Lw.Wait) (h : mildL cars) : (tickW c cars ws).length ≤ ws.length ∧ (tickO c cars ws).length ≤ ws.length := by
  have h1 := waves_len c (assignG c cars ws).1 (assignG c cars ws).2 (assignG c cars ws).1.length
  have h2 := (assign_mild c ws h ws.length).2.2
  unfold tickW tickO
  rw [show assignN c cars ws ws.length = assignG c cars ws from rfl] at h2
  omega
theorem assign_same (c : Config) (cars : List Lw.Car) (ws : List Lw.Wait) (n : Int) : ∀ k : Nat, ∃ s, atC (assignN c cars ws k).1 n = setStops (atC cars n) s
  | 0 => ⟨(atC cars n).stops, rfl⟩
  | k + 1 => by
    obtain ⟨s, hs⟩ := assign_same c cars ws n k
    unfold assignN
    split
    · exact ⟨s, hs⟩
    · split
      · rename_i hb
        have hr := best_range c (assignN c cars ws k).1 ⟨(ws.getD k zeroW).floor, (ws.getD k zeroW).way⟩
        generalize bestI c (assignN c cars ws k).1 ⟨(ws.getD k zeroW).floor, (ws.getD k zeroW).way⟩ = b at hb hr ⊢
        simp only
        by_cases hbn : b.toNat = n.toNat
        · refine ⟨hallS (atC (assignN c cars ws k).1 b).stops (ws.getD k zeroW).floor (ws.getD k zeroW).way, ?_⟩
          have e : atC (assignN c cars ws k).1 b = atC (assignN c cars ws k).1 n := by unfold atC; rw [hbn]
          rw [e, hs]
          unfold modC atC
          rw [hbn, List.getD_eq_getElem?_getD, List.getElem?_set_self (by omega)]
          rfl
        · refine ⟨s, ?_⟩
          rw [← hs]
          unfold modC atC
          rw [List.getD_eq_getElem?_getD, List.getElem?_set_ne hbn, ← List.getD_eq_getElem?_getD]
      · exact ⟨s, hs⟩
theorem tick_at (c : Config) (cars : List Lw.Car) (ws : List Lw.Wait) {n : Int} (h : n.toNat < (assignG c cars ws).1.length) : atC (tickL c cars ws) n = tickCar c (atC (assignG c cars ws).1 n) := by
  unfold tickL atC
  rw [List.getD_eq_getElem?_getD, List.getElem?_map, List.getElem?_eq_getElem h, List.getD_eq_getElem?_getD, List.getElem?_eq_getElem h]
  rfl
theorem tick_safe {c : Config} {cars : List Lw.Car} (ws : List Lw.Wait) (hI : GInv c cars) {n : Int} (h0 : 0 ≤ n) (h1 : n < cars.length) : ((atC cars n).unit ≠ (atC (tickL c cars ws) n).unit → (atC cars n).door.state = 0 ∧ (atC (tickL c cars ws) n).door.state = 0) ∧ ((atC (tickL c cars ws) n).door.state ≠ 0 → Int.tmod (atC (tickL c cars ws) n).unit 4 = 0) ∧ 0 ≤ (atC (tickL c cars ws) n).unit ∧ (atC (tickL c cars ws) n).unit ≤ 4 * (floorsI c.floors - 1) := by
  have ha := gInv_assign ws hI ws.length
  rw [show assignN c cars ws ws.length = assignG c cars ws from rfl] at ha
  have hl : n.toNat < (assignG c cars ws).1.length := by have := hI.1; have := ha.1; omega
  have hx := ha.2 _ (atC_mem (n := n) h0 (by omega))
  have ht := tick_may hx.1 hx.2
  obtain ⟨s, hs⟩ := assign_same c cars ws n ws.length
  rw [show assignN c cars ws ws.length = assignG c cars ws from rfl] at hs
  rw [tick_at c cars ws hl]
  obtain ⟨m1, _⟩ := may_iff.1 ht.1
  unfold goodC at m1
  simp only [decide_eq_true_eq] at m1
  refine ⟨fun hu => ?_, fun hd => ?_, m1.2.1, m1.2.2.1⟩
  · have hu2 : (tickCar c (atC (assignG c cars ws).1 n)).unit ≠ (atC (assignG c cars ws).1 n).unit := by
      intro e; apply hu; rw [e, hs]; rfl
    have := ht.2.2 hu2
    rw [hs] at this ⊢
    exact this
  · have hv : levelB (tickCar c (atC (assignG c cars ws).1 n)).unit = true := m1.2.2.2.2.2.resolve_left hd
    unfold levelB at hv
    simp only [Bool.and_eq_true, decide_eq_true_eq, beq_iff_eq] at hv
    rw [Int.tmod_eq_emod_of_nonneg hv.1]
    exact hv.2.2
theorem quotaI_pos (c : Config) : 1 ≤ quotaI c := (clampI_range (by decide) _).1
theorem invL_nil (c : Config) : InvL c [] := ⟨List.nodup_nil, List.nodup_nil, fun n => by have := quotaI_pos c; simp only [countL, List.countP_nil]; omega⟩
theorem idxG_any {α : Type} {p : α → Bool} : ∀ (ls : List α) (i : Int), 0 ≤ i → decide (idxG p ls i ≥ 0) = ls.any p
  | [], i, h => by simp [idxG]
  | x :: r, i, h => by
    unfold idxG
    rw [List.any_cons]
    cases hp : p x with
    | true => simp [h]
    | false => rw [cond_false, Bool.false_or]; exact idxG_any r (i + 1) (by omega)
theorem any_or2 {α : Type} (p q : α → Bool) : ∀ ls : List α, (ls.any fun x => p x || q x) = (ls.any p || ls.any q)
  | [] => rfl
  | x :: r => by
    rw [List.any_cons, List.any_cons, List.any_cons, any_or2 p q r]
    cases p x <;> cases q x <;> simp
theorem putP_or (x : Lw.Lease) (ls : List Lw.Lease) : decide (idxG (putP x) ls 0 ≥ 0) = (decide (idxG (sesP x.ask.session) ls 0 ≥ 0) || decide (idxG (carP x.car) ls 0 ≥ 0)) := by
  rw [idxG_any _ _ (by omega), idxG_any _ _ (by omega), idxG_any _ _ (by omega), ← any_or2]; rfl
theorem get_uniq {p : Lw.Lease → Bool} {ls : List Lw.Lease} {i : Nat} {x : Lw.Lease} (hu : uniq p ls) (hget : ls[i]? = some x) (hp : p x = true) : getB p ls = true ∧ getL p ls = x := by
  rcases idxG_spec (p := p) ls 0 with ⟨h, k⟩ | ⟨j, y, h, k, q⟩
  · rw [k i x hget] at hp; cases hp
  · have := hu i j x y hget k hp q
    subst this
    rw [hget] at k
    cases k
    have hn : ¬ idxG p ls 0 < 0 := by omega
    refine ⟨by unfold getB; rw [decide_eq_false hn]; rfl, ?_⟩
    unfold getL
    rw [if_neg hn, h, show ((0 : Int) + (i : Int)).toNat = i by omega, List.getD_eq_getElem?_getD, hget]; rfl
theorem countL_append (ls : List Lw.Lease) (x : Lw.Lease) (n : Int) : countL (ls ++ [x]) n = countL ls n + (if x.ask.fleet = n then 1 else 0) := by
  unfold countL
  rw [List.countP_append, List.countP_singleton]
  by_cases h : x.ask.fleet = n
  · rw [if_pos h, if_pos (by simpa using h)]; omega
  · rw [if_neg h, if_neg (by simpa using h)]; omega
theorem invL_put {c : Config} {ls : List Lw.Lease} {x : Lw.Lease} (h : InvL c ls) (hq : ¬ idxG (putP x) ls 0 ≥ 0) (hf : countL ls x.ask.fleet < quotaI c) : InvL c (ls ++ [x]) := by
  have hno : ∀ y ∈ ls, putP x y = false := by
    rcases idxG_spec (p := putP x) ls 0 with ⟨_, k⟩ | ⟨j, y, h1, _, _⟩
    · intro y hy
      obtain ⟨j, hj, rfl⟩ := List.getElem_of_mem hy
      exact k j _ (List.getElem?_eq_getElem hj)
    · exact absurd (by omega) hq
  refine ⟨?_, ?_, fun n => ?_⟩
  · rw [List.map_append]
    refine List.nodup_append.2 ⟨h.1, by simp, fun a ha b hb e => ?_⟩
    obtain ⟨y, hy, rfl⟩ := List.mem_map.1 ha
    simp only [List.map_cons, List.map_nil, List.mem_singleton] at hb
    have := hno y hy
    unfold putP at this
    rw [e, hb] at this
    simp at this
  · rw [List.map_append]
    refine List.nodup_append.2 ⟨h.2.1, by simp, fun a ha b hb e => ?_⟩
    obtain ⟨y, hy, rfl⟩ := List.mem_map.1 ha
    simp only [List.map_cons, List.map_nil, List.mem_singleton] at hb
    have := hno y hy
    unfold putP at this
    rw [e, hb] at this
    simp at this
  · rw [countL_append]
    have := h.2.2 n
    split
    · rename_i e; subst e; omega
    · omega
theorem countL_map (ls : List Lw.Lease) (n : Int) : countL ls n = ((ls.map fun x => x.ask.fleet).countP fun k => k == n : Nat) := by
  unfold countL
  rw [List.countP_map]; rfl
theorem invL_set {c : Config} {ls : List Lw.Lease} {x : Lw.Lease} (h : InvL c ls) (hn : ¬ idxG (setP x) ls 0 < 0) : InvL c (ls.set (idxG (setP x) ls 0).toNat x) := by
  rcases idxG_spec (p := setP x) ls 0 with ⟨h1, _⟩ | ⟨j, y, h1, hy, hp⟩
  · exact absurd (by omega) hn
  · have ej : (idxG (setP x) ls 0).toNat = j := by omega
    rw [ej]
    unfold setP at hp
    simp only [Bool.and_eq_true, beq_iff_eq] at hp
    refine ⟨by rw [map_set_same hy hp.1.1.symm]; exact h.1, by rw [map_set_same hy hp.1.2.symm]; exact h.2.1, fun n => ?_⟩
    rw [countL_map, map_set_same (f := fun x : Lw.Lease => x.ask.fleet) hy hp.2.symm, ← countL_map]
    exact h.2.2 n
theorem invL_sub {c : Config} {ls ms : List Lw.Lease} (h : InvL c ls) (hs : ms.Sublist ls) : InvL c ms :=
  ⟨h.1.sublist (hs.map _), h.2.1.sublist (hs.map _), fun n => by have := hs.countP_le (p := fun x : Lw.Lease => x.ask.fleet == n); have := h.2.2 n; unfold countL at *; omega⟩
end Go.Proofs.YtjgmkpidiaojkaaGreat
