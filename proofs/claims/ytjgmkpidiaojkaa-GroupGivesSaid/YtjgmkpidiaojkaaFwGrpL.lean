/- The functions of this group answer so. -/
import Derived.Test.YtjgmkpidiaojkaaFwGrpLV
import Derived.Test.YtjgmkpidiaojkaaFwGrp
set_option linter.unusedVariables false
set_option linter.unusedSimpArgs false
set_option maxRecDepth 20000
set_option maxHeartbeats 4000000
namespace Go.Proofs.Ytjgmkpidiaojkaa
open Lw
attribute [local irreducible] Lw.vc Lw.vcFunc
theorem mild_new (n : Nat) (h : n ≤ 1000) : mildL (List.replicate n car0) := by
  refine ⟨by rw [List.length_replicate]; exact h, fun x hx => ?_⟩
  rw [List.eq_of_mem_replicate hx]
  unfold stopsR u64R mildC mildD r64 car0
  decide
def GInv (c : Config) (cars : List Lw.Car) : Prop := (cars.length : Int) = carsI c ∧ ∀ x ∈ cars, mayB c x = true ∧ stopsR x.stops
theorem gInv_mild {c : Config} {cars : List Lw.Car} (h : GInv c cars) : mildL cars :=
  ⟨by have := (clampI_range (show (1 : Int) ≤ 8 by decide) c.cars).2; have := h.1; unfold carsI at *; omega, fun x hx => ⟨(h.2 x hx).2, good_mild (may_iff.1 (h.2 x hx).1).1⟩⟩
theorem gInv_len {c : Config} {cars : List Lw.Car} (h : GInv c cars) : 1 ≤ cars.length ∧ cars.length ≤ 8 := by
  have := clampI_range (show (1 : Int) ≤ 8 by decide) c.cars
  have := h.1
  unfold carsI at *
  omega
theorem gInv_new (c : Config) : GInv c (List.replicate (carsI c).toNat car0) := by
  have := clampI_range (show (1 : Int) ≤ 8 by decide) c.cars
  refine ⟨by rw [List.length_replicate]; unfold carsI at *; omega, fun x hx => ?_⟩
  rw [List.eq_of_mem_replicate hx]
  have hf := floorsI_range c.floors
  refine ⟨may_iff.2 ⟨?_, .inl rfl, .inl rfl, .inl (by decide)⟩, by unfold stopsR u64R car0; decide⟩
  unfold goodC goodD car0
  simp only [decide_eq_true_eq]
  refine ⟨by simp, by omega, by omega, by omega, by omega, by simp⟩
theorem gInv_mod {c : Config} {cars : List Lw.Car} {n : Int} {x : Lw.Car} (h : GInv c cars) (hx : mayB c x = true ∧ stopsR x.stops) : GInv c (modC cars n x) := by
  refine ⟨by unfold modC; rw [List.length_set]; exact h.1, fun y hy => ?_⟩
  unfold modC at hy
  rcases List.mem_or_eq_of_mem_set hy with hy | rfl
  · exact h.2 y hy
  · exact hx
theorem gInv_at {c : Config} {cars : List Lw.Car} {n f : Int} (h : GInv c cars) (ho : okC c cars n f = true) : mayB c (atC cars n) = true ∧ stopsR (atC cars n).stops := h.2 _ (atC_mem (okC_iff ho).1 (okC_iff ho).2.1)
theorem gInv_press {c : Config} {cars : List Lw.Car} (n f : Int) (h : GInv c cars) : GInv c (pressL c cars n f) := by
  unfold pressL
  split
  · rename_i e
    have ho : okC c cars n f = true := by
      cases ho : okC c cars n f
      · unfold pressE at e; rw [ho, if_pos rfl] at e; omega
      · rfl
    exact gInv_mod h ⟨(gInv_at h ho).1, press_r (gInv_at h ho).2 f⟩
  · exact h
theorem gInv_load {c : Config} {cars : List Lw.Car} (n kg : Int) (h : GInv c cars) : GInv c (loadL c cars n kg) := by
  unfold loadL
  split
  · rename_i ho; exact gInv_mod h (gInv_at h ho)
  · exact h
theorem gInv_curt {c : Config} {cars : List Lw.Car} (n : Int) (b : Bool) (h : GInv c cars) : GInv c (curtL c cars n b) := by
  unfold curtL
  split
  · rename_i ho; exact gInv_mod h (gInv_at h ho)
  · exact h
theorem gInv_fault {c : Config} {cars : List Lw.Car} (n : Int) (b : Bool) (h : GInv c cars) : GInv c (faultL c cars n b) := by
  unfold faultL
  split
  · rename_i ho
    refine gInv_mod h ⟨(gInv_at h ho).1, ?_⟩
    unfold setBrk
    simp only
    split
    · unfold stopsR u64R; decide
    · exact (gInv_at h ho).2
  · exact h
theorem idle_level {x : Lw.Car} (h : idleB x = true) : levelB x.unit = true := by
  unfold idleB at h
  rw [Bool.and_eq_true] at h
  exact h.1
theorem gInv_take {c : Config} {cars : List Lw.Car} (n f : Int) (h : GInv c cars) : GInv c (takeL c cars n f) := by
  unfold takeL
  split
  · rename_i e
    have ho : okC c cars n f = true ∧ idleB (atC cars n) = true := by
      unfold takeE at e
      cases ho : okC c cars n f
      · rw [ho, if_pos rfl] at e; omega
      · rw [ho, if_neg (by decide)] at e
        by_cases hi : idleB (atC cars n) = true
        · exact ⟨rfl, hi⟩
        · rw [if_neg hi] at e; omega
    have hm := gInv_at h ho.1
    have hf := floorB_iff (okC_iff ho.1).2.2
    obtain ⟨m1, m2, m3, m4⟩ := may_iff.1 hm.1
    exact gInv_mod h ⟨may_iff.2 ⟨m1, .inr rfl, .inl (show levelB (atC cars n).unit = true from idle_level ho.2), .inr ⟨hf.1, hf.2.1⟩⟩, hm.2⟩
  · exact h
theorem gInv_aim {c : Config} {cars : List Lw.Car} (n f : Int) (b : Bool) (h : GInv c cars) : GInv c (aimL c cars n f b) := by
  unfold aimL
  split
  · rename_i e
    have ho := aimE_ok e
    have hm := gInv_at h ho.1
    have hf := floorB_iff (okC_iff ho.1).2.2
    obtain ⟨m1, m2, m3, m4⟩ := may_iff.1 hm.1
    exact gInv_mod h ⟨may_iff.2 ⟨m1, m2, m3, .inr ⟨hf.1, hf.2.1⟩⟩, hm.2⟩
  · exact h
theorem gInv_give {c : Config} {cars : List Lw.Car} (n : Int) (h : GInv c cars) : GInv c (giveL c cars n) := by
  unfold giveL
  split
  · rename_i e
    have ho := aimE_ok e
    have hm := gInv_at h ho.1
    obtain ⟨m1, m2, m3, m4⟩ := may_iff.1 hm.1
    refine gInv_mod h ⟨may_iff.2 ⟨?_, .inl rfl, ?_, .inl (show (0 : Int) ≠ 1 by decide)⟩, hm.2⟩
    · unfold goodC setGive at *
      simp only [decide_eq_true_eq] at m1 ⊢
      refine ⟨m1.1, m1.2.1, m1.2.2.1, ?_, ?_, m1.2.2.2.2.2⟩ <;> split <;> omega
    · unfold setGive
      simp only
      rcases m3 with m3 | m3
      · exact .inl m3
      · by_cases hl : levelB (atC cars n).unit = true
        · exact .inl hl
        · right; rw [if_neg hl]; exact m3
  · exact h
theorem gInv_do {c : Config} {cars : List Lw.Car} (o : Lw.GOp) (h : GInv c cars) : GInv c (doC c cars o) := by
  unfold doC
  repeat' split
  all_goals first
    | exact h
    | exact gInv_press _ _ h
    | exact gInv_load _ _ h
    | exact gInv_curt _ _ h
    | exact gInv_fault _ _ h
    | exact gInv_take _ _ h
    | exact gInv_aim _ _ _ h
    | exact gInv_give _ h
theorem hallW_len (c : Config) (ws : List Lw.Wait) (now f w : Int) : (hallW c ws now f w).length ≤ ws.length + 1 := by
  unfold hallW
  split
  · simp
  · omega
theorem doW_len (c : Config) (cars : List Lw.Car) (ws : List Lw.Wait) (now : Int) (o : Lw.GOp) : (doW c cars ws now o).length ≤ ws.length + 1 := by
  unfold doW faultW
  repeat' split
  all_goals first
    | exact hallW_len _ _ _ _ _
    | (simp only [List.length_map]; omega)
    | omega
theorem gInv_assign {c : Config} {cars : List Lw.Car} (ws : List Lw.Wait) (h : GInv c cars) : ∀ k : Nat, GInv c (assignN c cars ws k).1
  | 0 => h
  | k + 1 => by
    have ih := gInv_assign ws h k
    unfold assignN
    split
    · exact ih
    · split
      · rename_i hb
        have hr := best_range c (assignN c cars ws k).1 ⟨(ws.getD k zeroW).floor, (ws.getD k zeroW).way⟩
        have hm := ih.2 _ (atC_mem hb hr.2)
        exact gInv_mod ih ⟨hm.1, hall_r hm.2 _ _⟩
      · exact ih
theorem gInv_tick {c : Config} {cars : List Lw.Car} (ws : List Lw.Wait) (h : GInv c cars) : GInv c (tickL c cars ws) := by
  have ha := gInv_assign ws h ws.length
  refine ⟨by unfold tickL; rw [List.length_map]; exact ha.1, fun x hx => ?_⟩
  unfold tickL at hx
  obtain ⟨y, hy, rfl⟩ := List.mem_map.1 hx
  have := tick_may (ha.2 y hy).1 (ha.2 y hy).2
  exact ⟨this.1, this.2.1⟩
theorem tickW_len {c : Config} {cars : List Lw.Car} (ws : List Lw.Wait) (h : mildL cars) : (tickW c cars ws).length ≤ ws.length ∧ (tickO c cars ws).length ≤ ws.length := by
  have h1 := waves_len c (assignG c cars ws).1 (assignG c cars ws).2 (assignG c cars ws).1.length
  have h2 := (assign_mild c ws h ws.length).2.2
  unfold tickW tickO
  rw [show assignN c cars ws ws.length = assignG c cars ws from rfl] at h2
  omega
theorem assign_same (c : Config) (cars : List Lw.Car) (ws : List Lw.Wait) (n : Int) : ∀ k : Nat, ∃ s, atC (assignN c cars ws k).1 n = setStops (atC cars n) s
  | 0 => ⟨(atC cars n).stops, rfl⟩
  | k + 1 => by
    obtain ⟨s, hs⟩ := assign_same c cars ws n k
    unfold assignN
    split
    · exact ⟨s, hs⟩
    · split
      · rename_i hb
        have hr := best_range c (assignN c cars ws k).1 ⟨(ws.getD k zeroW).floor, (ws.getD k zeroW).way⟩
        generalize bestI c (assignN c cars ws k).1 ⟨(ws.getD k zeroW).floor, (ws.getD k zeroW).way⟩ = b at hb hr ⊢
        simp only
        by_cases hbn : b.toNat = n.toNat
        · refine ⟨hallS (atC (assignN c cars ws k).1 b).stops (ws.getD k zeroW).floor (ws.getD k zeroW).way, ?_⟩
          have e : atC (assignN c cars ws k).1 b = atC (assignN c cars ws k).1 n := by unfold atC; rw [hbn]
          rw [e, hs]
          unfold modC atC
          rw [hbn, List.getD_eq_getElem?_getD, List.getElem?_set_self (by omega)]
          rfl
        · refine ⟨s, ?_⟩
          rw [← hs]
          unfold modC atC
          rw [List.getD_eq_getElem?_getD, List.getElem?_set_ne hbn, ← List.getD_eq_getElem?_getD]
      · exact ⟨s, hs⟩
theorem tick_at (c : Config) (cars : List Lw.Car) (ws : List Lw.Wait) {n : Int} (h : n.toNat < (assignG c cars ws).1.length) : atC (tickL c cars ws) n = tickCar c (atC (assignG c cars ws).1 n) := by
  unfold tickL atC
  rw [List.getD_eq_getElem?_getD, List.getElem?_map, List.getElem?_eq_getElem h, List.getD_eq_getElem?_getD, List.getElem?_eq_getElem h]
  rfl
theorem tick_safe {c : Config} {cars : List Lw.Car} (ws : List Lw.Wait) (hI : GInv c cars) {n : Int} (h0 : 0 ≤ n) (h1 : n < cars.length) : ((atC cars n).unit ≠ (atC (tickL c cars ws) n).unit → (atC cars n).door.state = 0 ∧ (atC (tickL c cars ws) n).door.state = 0) ∧ ((atC (tickL c cars ws) n).door.state ≠ 0 → Int.tmod (atC (tickL c cars ws) n).unit 4 = 0) ∧ 0 ≤ (atC (tickL c cars ws) n).unit ∧ (atC (tickL c cars ws) n).unit ≤ 4 * (floorsI c.floors - 1) := by
  have ha := gInv_assign ws hI ws.length
  rw [show assignN c cars ws ws.length = assignG c cars ws from rfl] at ha
  have hl : n.toNat < (assignG c cars ws).1.length := by have := hI.1; have := ha.1; omega
  have hx := ha.2 _ (atC_mem (n := n) h0 (by omega))
  have ht := tick_may hx.1 hx.2
  obtain ⟨s, hs⟩ := assign_same c cars ws n ws.length
  rw [show assignN c cars ws ws.length = assignG c cars ws from rfl] at hs
  rw [tick_at c cars ws hl]
  obtain ⟨m1, _⟩ := may_iff.1 ht.1
  unfold goodC at m1
  simp only [decide_eq_true_eq] at m1
  refine ⟨fun hu => ?_, fun hd => ?_, m1.2.1, m1.2.2.1⟩
  · have hu2 : (tickCar c (atC (assignG c cars ws).1 n)).unit ≠ (atC (assignG c cars ws).1 n).unit := by
      intro e; apply hu; rw [e, hs]; rfl
    have := ht.2.2 hu2
    rw [hs] at this ⊢
    exact this
  · have hv : levelB (tickCar c (atC (assignG c cars ws).1 n)).unit = true := m1.2.2.2.2.2.resolve_left hd
    unfold levelB at hv
    simp only [Bool.and_eq_true, decide_eq_true_eq, beq_iff_eq] at hv
    rw [Int.tmod_eq_emod_of_nonneg hv.1]
    exact hv.2.2
theorem h14 : Holds Try.prog eid 14 (s14) := by
  refine hold tb80_ok Try.func14 (by kernel_rfl) ?_ (by kernel_rfl)
  intro xs M t h
  unfold s14 at h
  split at h
  case h_2 => cases h
  cases h
  refine ⟨fun l h => (nomatch h), ?_⟩
  intro hp
  rw [v14_vc]
  exact ends_v rfl rfl
theorem tb81_ok : GamOk Try.prog eid (gam tb81) := gam_cons h14 tb80_ok
theorem h11 : Holds Try.prog eid 11 (s11) := by
  refine hold tb81_ok Try.func11 (by kernel_rfl) ?_ (by kernel_rfl)
  intro xs M t h
  unfold s11 at h
  split at h
  case h_2 => cases h
  cases h
  refine ⟨fun l h => (nomatch h), ?_⟩
  intro hp
  rw [v11_vc]
  exact ⟨by decide, by decide +kernel, ⟨mild_new _ (by decide +kernel), by decide +kernel⟩, ⟨by decide, by decide +kernel⟩, by decide +kernel, by decide +kernel, ends_pl (congrArg PC.bool (by decide +kernel))⟩
theorem tb82_ok : GamOk Try.prog eid (gam tb82) := gam_cons h11 tb81_ok
theorem h7 : Holds Try.prog eid 7 (doGS) := by
  refine hold tb82_ok Try.func7 (by kernel_rfl) ?_ (by kernel_rfl)
  intro xs M t h
  unfold doGS at h
  split at h
  · rename_i k
    obtain ⟨o, ho, h1⟩ := Option.bind_eq_some_iff.1 h
    clear h
    cases h1
    cases Lw.GOp.of_eq ho
    refine ⟨updN, ?_⟩
    intro hp
    rw [v7n_vc]
    repeat' first
      | refine cnd_iff.2 ⟨fun _ => ?_, fun _ => ?_⟩
      | refine ends_to (w := vi (doN o)) (congrArg (fun n => vi n) ?_) (ends_pl rfl)
    all_goals (simp only [beq_iff_eq, beq_eq_false_iff_ne, ne_eq] at *; unfold doN; split <;> omega)
  · rename_i k vs cars ws
    obtain ⟨c, now, rfl, h1⟩ := grpS_eq h
    clear h
    obtain ⟨o, ho, h⟩ := Option.bind_eq_some_iff.1 h1
    clear h1
    cases h
    cases Lw.GOp.of_eq ho
    refine ⟨updL rfl, ?_⟩
    intro hp
    obtain ⟨hm, hl⟩ := (hp : mildL cars ∧ ws.length + 1 ≤ bigRow)
    have hbig : bigRow = 1073741824 := rfl
    have hmx := maxLen_eq
    rw [v7_vc]
    refine cnd_iff.2 ⟨fun h1 => ⟨by omega, ?_⟩, fun n1 => cnd_iff.2 ⟨fun h2 => ?_, fun n2 => cnd_iff.2 ⟨fun h3 => ?_, fun n3 => cnd_iff.2 ⟨fun h4 => ?_, fun n4 => cnd_iff.2 ⟨fun h5 => ⟨by omega, ?_⟩, fun n5 => cnd_iff.2 ⟨fun h6 => ⟨hm, ?_⟩, fun n6 => cnd_iff.2 ⟨fun h7 => ?_, fun n7 => cnd_iff.2 ⟨fun h8 => ?_, fun n8 => ?_⟩⟩⟩⟩⟩⟩⟩⟩
    · have hk : o.kind = 1 := beq_iff_eq.1 h1
      have e : doE c cars o = hallE c o.a o.b := by simp [doE, hk]
      have e1 : doC c cars o = cars := by simp [doC, hk]
      have e2 : doW c cars ws now o = hallW c ws now o.a o.b := by simp [doW, hk]
      simp only [BT.ev, e, e1, e2]
      exact ends_selD [] [some 0, some 1, none, some 4] rfl rfl rfl rfl
    · have hk : o.kind = 2 := beq_iff_eq.1 h2
      have e : doE c cars o = pressE c cars o.a o.b := by simp [doE, hk]
      have e1 : doC c cars o = pressL c cars o.a o.b := by simp [doC, hk]
      have e2 : doW c cars ws now o = ws := by simp [doW, hk]
      simp only [BT.ev, e, e1, e2]
      exact ends_selD [] [some 0, some 1, none, some 2] rfl rfl rfl rfl
    · have hk : o.kind = 3 := beq_iff_eq.1 h3
      have e : doE c cars o = csetE c cars o.a := by simp [doE, hk]
      have e1 : doC c cars o = loadL c cars o.a o.b := by simp [doC, hk]
      have e2 : doW c cars ws now o = ws := by simp [doW, hk]
      simp only [BT.ev, e, e1, e2]
      exact ends_selD [] [some 0, some 1, none, some 2] rfl rfl rfl rfl
    · have hk : o.kind = 4 := beq_iff_eq.1 h4
      have e : doE c cars o = csetE c cars o.a := by simp [doE, hk]
      have e1 : doC c cars o = curtL c cars o.a o.yes := by simp [doC, hk]
      have e2 : doW c cars ws now o = ws := by simp [doW, hk]
      simp only [BT.ev, e, e1, e2]
      exact ends_selD [] [some 0, some 1, none, some 2] rfl rfl rfl rfl
    · have hk : o.kind = 5 := beq_iff_eq.1 h5
      have e : doE c cars o = csetE c cars o.a := by simp [doE, hk]
      have e1 : doC c cars o = faultL c cars o.a o.yes := by simp [doC, hk]
      have e2 : doW c cars ws now o = faultW c cars ws o.a o.yes := by simp [doW, hk]
      simp only [BT.ev, e, e1, e2]
      exact ends_selD [] [some 0, some 1, none, some 2] rfl rfl rfl rfl
    · have hk : o.kind = 6 := beq_iff_eq.1 h6
      have e : doE c cars o = takeE c cars o.a o.b := by simp [doE, hk]
      have e1 : doC c cars o = takeL c cars o.a o.b := by simp [doC, hk]
      have e2 : doW c cars ws now o = ws := by simp [doW, hk]
      simp only [BT.ev, e, e1, e2]
      exact ends_selD [] [some 0, some 1, none, some 2] rfl rfl rfl rfl
    · have hk : o.kind = 7 := beq_iff_eq.1 h7
      have e : doE c cars o = aimE c cars o.a o.b := by simp [doE, hk]
      have e1 : doC c cars o = aimL c cars o.a o.b o.yes := by simp [doC, hk]
      have e2 : doW c cars ws now o = ws := by simp [doW, hk]
      simp only [BT.ev, e, e1, e2]
      exact ends_selD [] [some 0, some 1, none, some 2] rfl rfl rfl rfl
    · have hk : o.kind = 8 := beq_iff_eq.1 h8
      have e : doE c cars o = aimE c cars o.a 0 := by simp [doE, hk]
      have e1 : doC c cars o = giveL c cars o.a := by simp [doC, hk]
      have e2 : doW c cars ws now o = ws := by simp [doW, hk]
      simp only [BT.ev, e, e1, e2]
      exact ends_selD [] [some 0, some 1, none, some 2] rfl rfl rfl rfl
    · simp only [beq_eq_false_iff_ne, ne_eq] at n1 n2 n3 n4 n5 n6 n7 n8
      have e : doE c cars o = 0 := by simp [doE, n1, n2, n3, n4, n5, n6, n7, n8]
      have e1 : doC c cars o = cars := by simp [doC, n1, n2, n3, n4, n5, n6, n7, n8]
      have e2 : doW c cars ws now o = ws := by simp [doW, n1, n5]
      simp only [BT.ev, e, e1, e2]
      exact ends_selD [] [some 0, some 1, none, some 2] rfl rfl rfl rfl
  · cases h
theorem tb83_ok : GamOk Try.prog eid (gam tb83) := gam_cons h7 tb82_ok
theorem h5 : Holds Try.prog eid 5 (s5) := by
  refine hold tb83_ok Try.func5 (by kernel_rfl) ?_ (by kernel_rfl)
  intro xs M t h
  unfold s5 at h
  split at h
  case h_2 => cases h
  rename_i cso
  obtain ⟨o, hco, h1⟩ := Option.bind_eq_some_iff.1 h
  clear h
  have h := h1
  clear h1
  cases h
  cases Lw.GOp.of_eq hco
  clear hco
  refine ⟨fun l h => (nomatch h), ?_⟩
  intro hp
  rw [v5_vc]
  refine cnd_iff.2 ⟨fun h => ?_, fun _ => ⟨by decide, by decide +kernel, by decide +kernel, by decide +kernel, by decide +kernel, by decide +kernel, by decide +kernel, by decide +kernel, by decide +kernel, ends_pl (congrArg PC.bool (by decide +kernel))⟩⟩
  exfalso
  simp only [c_and, Bool.and_eq_true, decide_eq_true_eq, bne_iff_ne, ne_eq] at h
  unfold doN at h
  rw [if_pos h.1] at h
  exact h.2 rfl
theorem tb84_ok : GamOk Try.prog eid (gam tb84) := gam_cons h5 tb83_ok
theorem h3 : Holds Try.prog eid 3 (lawGS) := by
  refine hold tb84_ok Try.func3 (by kernel_rfl) ?_ (by kernel_rfl)
  intro xs M t h
  unfold lawGS at h
  split at h
  case h_2 => cases h
  rename_i kc ops
  obtain ⟨c, hc, h1⟩ := Option.bind_eq_some_iff.1 h
  clear h
  cases Lw.Config.of_eq hc
  cases h1
  refine ⟨updN, ?_⟩
  intro hp
  have hp : ops.length ≤ Go.maxLen := hp
  have hmx := maxLen_eq
  have hbig : bigRow = 1073741824 := rfl
  rw [v3_vc]
  refine loopVC_selD (S := List Lw.Car × List Lw.Wait × Int × Int) v3b_m (fun s => v3b_fr c ops s.1 s.2.1 s.2.2.1 s.2.2.2) (fun s => v3b_mem c ops s.1 s.2.1 s.2.2.1 s.2.2.2) (fun s => (ops.length - s.2.2.2).toNat) (fun s => (0 ≤ s.2.2.2 ∧ s.2.2.2 ≤ ops.length) ∧ GInv c s.1 ∧ ((s.2.1.length : Int) ≤ s.2.2.2 ∧ s.2.2.2 ≤ 80)) ⟨[], [some 0, some 1, some 2, some 3], (List.replicate (carsI c).toNat car0, [], 0, 0), ⟨by simp, gInv_new c, by simp⟩, _, rfl, rfl, rfl, rfl⟩ ?_
  rintro ⟨cars, ws, now, i⟩ ⟨⟨h0, h1⟩, hI, hl, hl2⟩
  simp only at h0 h1 hI hl hl2
  refine (v3b_vc c ops cars ws now i _ _).mpr ?_
  rw [c_and]
  refine cnd_iff.2 ⟨fun hi => ?_, fun _ => ends_pl rfl⟩
  have hi : i < ops.length ∧ i < 80 := by rw [Bool.and_eq_true, decide_eq_true_eq, decide_eq_true_eq] at hi; exact hi
  rw [wrap_id (n := i + 1) (by omega) (by omega)]
  generalize (ops.getD i.toNat (RTy.zero .gop) : Lw.GOp) = o
  refine ⟨⟨h0, hi.1⟩, cnd_iff.2 ⟨fun _ => ⟨⟨gInv_mild hI, by omega⟩, ?_⟩, fun _ => ?_⟩⟩
  · have := doW_len c cars ws now o
    exact ⟨[], [some 0, some 1, some 2, some 5], (doC c cars o, doW c cars ws now o, now, i + 1), ⟨⟨⟨by simp only; omega, by simp only; omega⟩, gInv_do o hI, by simp only; omega, by simp only; omega⟩, by simp only; omega⟩, _, rfl, rfl, rfl, rfl⟩
  · refine loopVC_selD (S := List Lw.Car × List Lw.Wait × Int × Int) v3c_m (fun s => v3c_fr c ops s.1 s.2.1 s.2.2.1 i s.2.2.2 o) (fun s => v3c_mem c ops s.1 s.2.1 s.2.2.1 i s.2.2.2 o) (fun s => (50 - s.2.2.2).toNat) (fun s => (0 ≤ s.2.2.2 ∧ s.2.2.2 ≤ 50) ∧ GInv c s.1 ∧ ((s.2.1.length : Int) ≤ i)) ⟨[], [some 0, some 1, some 2, some 3, some 4], (cars, ws, now, 0), ⟨by simp, hI, hl⟩, _, rfl, rfl, rfl, rfl⟩ ?_
    rintro ⟨cars, ws, now, k⟩ ⟨⟨k0, k1⟩, hI, hl⟩
    simp only at k0 k1 hI hl
    refine (v3c_vc c ops cars ws now i k o _ _ _).mpr ?_
    rw [c_and, wrap_id (n := i + 1) (by omega) (by omega)]
    refine cnd_iff.2 ⟨fun hk => ?_, fun _ => ⟨[], [some 0, some 1, some 2, some 3], (cars, ws, now, i + 1), ⟨⟨⟨by simp only; omega, by simp only; omega⟩, hI, by simp only; omega, by simp only; omega⟩, by simp only; omega⟩, _, rfl, rfl, rfl, rfl⟩⟩
    have hk : k < o.a ∧ k < 50 := by rw [Bool.and_eq_true, decide_eq_true_eq, decide_eq_true_eq] at hk; exact hk
    have hm := gInv_mild hI
    have hT := gInv_tick ws hI
    have hlen := gInv_len hI
    have hlT := gInv_len hT
    have e : (tickL c cars ws).length = cars.length := by have := hI.1; have := hT.1; omega
    have hw := tickW_len (c := c) ws hm
    have hok : ∀ n : Int, 0 ≤ n → n < cars.length → ((atC cars n).unit ≠ (atC (tickL c cars ws) n).unit → (atC cars n).door.state = 0 ∧ (atC (tickL c cars ws) n).door.state = 0) ∧ ((atC (tickL c cars ws) n).door.state ≠ 0 → Int.tmod (atC (tickL c cars ws) n).unit 4 = 0) ∧ 0 ≤ (atC (tickL c cars ws) n).unit ∧ (atC (tickL c cars ws) n).unit ≤ 4 * (floorsI c.floors - 1) := fun n hn hn2 => tick_safe ws hI hn hn2
    refine ⟨by omega, ⟨hm, by omega⟩, by omega, cnd_iff.2 ⟨fun h => ?_, fun _ => ?_⟩⟩
    · exfalso
      rw [c_or, e, Bool.or_eq_true, bne_self_eq_false, beq_iff_eq] at h
      rcases h with h | h
      · cases h
      · omega
    generalize tickL c cars ws = cs2 at hT hlT e hok ⊢
    generalize tickW c cars ws = ws2 at hw ⊢
    refine loopVC_selD (S := Int) v3d_m (fun n => v3d_fr c ops cars cs2 ws2 (addT now 1) i k n o) (fun n => v3d_mem c ops cars cs2 ws2 (addT now 1) i k n o) (fun n => (cars.length - n).toNat) (fun n => 0 ≤ n ∧ n ≤ cars.length) ⟨[], [some 0, some 1, some 2, some 6, some 4, some 5, some 8], 0, ⟨by simp, by simp⟩, _, rfl, rfl, rfl, rfl⟩ ?_
    rintro n ⟨n0, n1⟩
    refine (v3d_vc c ops cars cs2 ws2 (addT now 1) i k n o _ _ _ _).mpr ?_
    have hf := floorsI_range c.floors
    rw [wrap_id (n := n + 1) (by omega) (by omega), wrap_id (n := k + 1) (by omega) (by omega), wrap_id (n := floorsI c.floors - 1) (by omega) (by omega), wrap_id (n := 4 * (floorsI c.floors - 1)) (by omega) (by omega)]
    refine cnd_iff.2 ⟨fun hn => ?_, fun _ => ⟨[], [some 0, some 1, some 2, some 3, some 4], (cs2, ws2, addT now 1, k + 1), ⟨⟨⟨by simp only; omega, by simp only; omega⟩, hT, by simp only; omega⟩, by simp only; omega⟩, _, rfl, rfl, rfl, rfl⟩⟩
    have hn : n < cars.length := of_decide_eq_true hn
    obtain ⟨q1, q2, q3, q4⟩ := hok n n0 hn
    have ra : 0 ≤ n ∧ n < cars.length := ⟨n0, hn⟩
    have rb : 0 ≤ n ∧ n < cs2.length := ⟨n0, by omega⟩
    rw [zeroC_eq]
    have fin2 : ∀ {P Q : Prop}, Q → (0 ≤ n ∧ n < (cs2.length : Int)) ∧ cnd (decide ((atC cs2 n).unit < 0)) P ((0 ≤ n ∧ n < (cs2.length : Int)) ∧ cnd (decide ((atC cs2 n).unit > 4 * (floorsI c.floors - 1))) P Q) := fun hQ =>
      ⟨rb, cnd_iff.2 ⟨fun h => absurd (of_decide_eq_true h) (by omega), fun _ => ⟨rb, cnd_iff.2 ⟨fun h => absurd (of_decide_eq_true h) (by omega), fun _ => hQ⟩⟩⟩⟩
    have fin1 : ∀ {P Q : Prop}, Q → (0 ≤ n ∧ n < (cs2.length : Int)) ∧ cnd ((atC cs2 n).door.state != 0) ((0 ≤ n ∧ n < (cs2.length : Int)) ∧ (4 : Int) ≠ 0 ∧ cnd (Int.tmod (atC cs2 n).unit 4 != 0) P ((0 ≤ n ∧ n < (cs2.length : Int)) ∧ cnd (decide ((atC cs2 n).unit < 0)) P ((0 ≤ n ∧ n < (cs2.length : Int)) ∧ cnd (decide ((atC cs2 n).unit > 4 * (floorsI c.floors - 1))) P Q))) ((0 ≤ n ∧ n < (cs2.length : Int)) ∧ cnd (decide ((atC cs2 n).unit < 0)) P ((0 ≤ n ∧ n < (cs2.length : Int)) ∧ cnd (decide ((atC cs2 n).unit > 4 * (floorsI c.floors - 1))) P Q)) := fun hQ =>
      ⟨rb, cnd_iff.2 ⟨fun h => ⟨rb, by decide, cnd_iff.2 ⟨fun h2 => absurd (q2 (bne_iff_ne.1 h)) (bne_iff_ne.1 h2), fun _ => fin2 hQ⟩⟩, fun _ => fin2 hQ⟩⟩
    refine ⟨ra, rb, cnd_iff.2 ⟨fun h => ⟨ra, cnd_iff.2 ⟨fun h2 => absurd (q1 (bne_iff_ne.1 h)).1 (bne_iff_ne.1 h2), fun _ => ⟨rb, cnd_iff.2 ⟨fun h3 => absurd (q1 (bne_iff_ne.1 h)).2 (bne_iff_ne.1 h3), fun _ => fin1 ?_⟩⟩⟩⟩, fun _ => fin1 ?_⟩⟩
    · exact ⟨[], [some 0, some 1, some 2, some 3, some 4, some 5, some 6], n + 1, ⟨⟨by omega, by omega⟩, by omega⟩, _, rfl, rfl, rfl, rfl⟩
    · exact ⟨[], [some 0, some 1, some 2, some 3, some 4, some 5, some 6], n + 1, ⟨⟨by omega, by omega⟩, by omega⟩, _, rfl, rfl, rfl, rfl⟩
theorem tb85_ok : GamOk Try.prog eid (gam tb85) := gam_cons h3 tb84_ok
end Go.Proofs.Ytjgmkpidiaojkaa
