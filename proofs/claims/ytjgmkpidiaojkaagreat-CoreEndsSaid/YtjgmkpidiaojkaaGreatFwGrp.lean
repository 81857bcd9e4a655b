/- The functions of this group answer so. -/
import Derived.Test.YtjgmkpidiaojkaaGreatFwGrpV
import Derived.Test.YtjgmkpidiaojkaaGreatFwRide
set_option linter.unusedVariables false
set_option linter.unusedSimpArgs false
set_option maxRecDepth 20000
set_option maxHeartbeats 4000000
namespace Go.Proofs.YtjgmkpidiaojkaaGreat
open Lw
attribute [local irreducible] Lw.vc Lw.vcFunc
theorem grpS_eq {b w : Nat} {vs : List Cell} {k : Config → Int → Option (BT SR)} {t : BT SR} (h : grpS b w vs k = some t) : ∃ c now, vs = grpC c b w now ∧ k c now = some t := by
  unfold grpS at h
  obtain ⟨⟨c, b', w', n⟩, hq, h1⟩ := Option.bind_eq_some_iff.1 h
  clear h
  simp only at h1
  cases hx : (Nat.beq b' b && Nat.beq w' w) <;> rw [hx] at h1
  · cases h1
  · rw [Bool.and_eq_true] at hx
    have e1 := Nat.eq_of_beq_eq_true hx.1
    have e2 := Nat.eq_of_beq_eq_true hx.2
    subst e1; subst e2
    unfold grpOf at hq
    obtain ⟨d, hd, hq⟩ := Option.bind_eq_some_iff.1 hq
    split at hq
    · rename_i b w n hy
      cases hq
      refine ⟨c, _, ?_, h1⟩
      rw [← List.take_append_drop 18 vs, Lw.Config.of_eq hd, hy]
      rfl
    · cases hq
theorem putAt_set {t : RTy} {xs : List t.T} {i off : Nat} {ps : List PC} {y : t.T} (h : i < xs.length) : putAt t (xs.set i y) i off ps = xs.set i (match t.puts y off ps with
    | some z => z
    | none => y) := by
  unfold putAt
  rw [List.getD_eq_getElem?_getD, List.getElem?_set_self h, Option.getD_some]
  cases t.puts y off ps with
  | none => rfl
  | some z => simp only [List.set_set]
def mixN {α : Type} (f : α → α) (xs : List α) (i : Nat) : List α := (xs.map f).take i ++ xs.drop i
theorem mix_len {α : Type} (f : α → α) (xs : List α) (i : Nat) : (mixN f xs i).length = xs.length := by
  unfold mixN; simp only [List.length_append, List.length_take, List.length_map, List.length_drop]; omega
theorem mix_get {α : Type} {f : α → α} {xs : List α} {i : Nat} (h : i < xs.length) (z : α) : (mixN f xs i).getD i z = xs.getD i z := by
  unfold mixN
  rw [List.getD_eq_getElem?_getD, List.getD_eq_getElem?_getD, List.getElem?_append_right (by simp only [List.length_take, List.length_map]; omega), List.getElem?_drop]
  congr 2
  simp only [List.length_take, List.length_map]; omega
theorem mix_set {α : Type} {f : α → α} {xs : List α} {i : Nat} (h : i < xs.length) (z : α) : (mixN f xs i).set i (f (xs.getD i z)) = mixN f xs (i + 1) := by
  apply List.ext_getElem?
  intro k
  rw [List.getElem?_set, mix_len, List.getD_eq_getElem?_getD, List.getElem?_eq_getElem h, Option.getD_some]
  unfold mixN
  simp only [List.getElem?_append, List.length_take, List.length_map, List.getElem?_take, List.getElem?_map, List.getElem?_drop]
  by_cases hk : i = k
  · subst hk
    rw [if_pos rfl, if_pos h, if_pos (by omega), if_pos (by omega), List.getElem?_eq_getElem h]; rfl
  · rw [if_neg hk]
    by_cases hl : k < i
    · rw [if_pos (by omega), if_pos hl, if_pos (by omega), if_pos (by omega)]
    · rw [if_neg (by omega), if_neg (by omega)]
      congr 1; omega
theorem mix_skip {α : Type} {f : α → α} {xs : List α} {i : Nat} (h : i < xs.length) (z : α) (e : f (xs.getD i z) = xs.getD i z) : mixN f xs i = mixN f xs (i + 1) := by
  rw [← mix_set h z, e]
  apply List.ext_getElem?
  intro k
  rw [List.getElem?_set, mix_len]
  by_cases hk : i = k
  · subst hk
    have := mix_get (f := f) h z
    rw [if_pos rfl, if_pos h, ← this, List.getD_eq_getElem?_getD, List.getElem?_eq_getElem (by rw [mix_len]; exact h)]; rfl
  · rw [if_neg hk]
theorem mix_zero {α : Type} (f : α → α) (xs : List α) : mixN f xs 0 = xs := by simp [mixN]
theorem mix_end {α : Type} (f : α → α) (xs : List α) : mixN f xs xs.length = xs.map f := by
  unfold mixN
  rw [List.take_of_length_le (by simp), List.drop_eq_nil_of_le (Nat.le_refl _), List.append_nil]
theorem or_u64 (a b : Int) : u64R (bitsI .or .u64 a b) := by
  unfold u64R bitsI
  simp only [IntKind.wrap_u64]
  omega
theorem hall_r {s : Lw.Stops} (h : stopsR s) (f w : Int) : stopsR (hallS s f w) := by
  unfold hallS
  split
  · exact ⟨h.1, or_u64 _ _, h.2.2⟩
  · split
    · exact ⟨h.1, h.2.1, or_u64 _ _⟩
    · exact h
theorem press_r {s : Lw.Stops} (h : stopsR s) (f : Int) : stopsR (pressS s f) := ⟨or_u64 _ _, h.2.1, h.2.2⟩
theorem atC_mem {cars : List Lw.Car} {n : Int} (h : 0 ≤ n) (k : n < cars.length) : atC cars n ∈ cars := getD_mem (by omega) _
theorem mildL_mod {cars : List Lw.Car} {n : Int} {x : Lw.Car} (h : mildL cars) (hx : stopsR x.stops ∧ mildC x) : mildL (modC cars n x) := by
  refine ⟨by unfold modC; rw [List.length_set]; exact h.1, fun y hy => ?_⟩
  unfold modC at hy
  rcases List.mem_or_eq_of_mem_set hy with hy | rfl
  · exact h.2 y hy
  · exact hx
theorem best_range (c : Config) (cars : List Lw.Car) (k : Lw.Call) : -1 ≤ bestI c cars k ∧ bestI c cars k < cars.length := bestN_range c cars k cars.length
theorem assign_mild (c : Config) {cars : List Lw.Car} (ws : List Lw.Wait) (h : mildL cars) : ∀ k : Nat, mildL (assignN c cars ws k).1 ∧ (assignN c cars ws k).1.length = cars.length ∧ (assignN c cars ws k).2.length = ws.length
  | 0 => ⟨h, rfl, rfl⟩
  | k + 1 => by
    have ih := assign_mild c ws h k
    unfold assignN
    split
    · exact ih
    · split
      · rename_i hb
        have hr := best_range c (assignN c cars ws k).1 ⟨(ws.getD k zeroW).floor, (ws.getD k zeroW).way⟩
        have hm := ih.1.2 _ (atC_mem hb hr.2)
        exact ⟨mildL_mod ih.1 ⟨hall_r hm.1 _ _, hm.2⟩, by simp only [modC, List.length_set]; exact ih.2.1, by simp only [List.length_set]; exact ih.2.2⟩
      · exact ih
theorem filter_split {α : Type} (p : α → Bool) : ∀ l : List α, (l.filter fun w => !p w).length + (l.filter fun w => p w).length = l.length
  | [] => rfl
  | x :: r => by
    have := filter_split p r
    rw [List.filter_cons, List.filter_cons]
    cases p x <;> simp only [Bool.not_true, Bool.not_false, if_true, if_false, Bool.false_eq_true, List.length_cons] <;> omega
theorem waves_len (c : Config) (cars : List Lw.Car) (ws : List Lw.Wait) : ∀ k : Nat, (wavesN c cars ws k).1.length + (wavesN c cars ws k).2.length = ws.length
  | 0 => by simp [wavesN]
  | k + 1 => by
    have ih := waves_len c cars ws k
    unfold wavesN
    split
    · have := filter_split (callP (tickCall c (cars.getD k zeroC))) (wavesN c cars ws k).1
      simp only [List.length_append]
      unfold keepW takeW
      omega
    · exact ih
theorem keep_none {q : Lw.Call} : ∀ (l : List Lw.Wait) (i : Int), 0 ≤ i → idxG (callP q) l i < 0 → keepW q l = l ∧ takeW q l = []
  | [], i, _, _ => ⟨rfl, rfl⟩
  | x :: r, i, h0, h => by
    unfold idxG at h
    cases hp : callP q x with
    | true => rw [hp] at h; simp only [cond_true] at h; omega
    | false =>
      rw [hp] at h
      have ih := keep_none r (i + 1) (by omega) h
      unfold keepW takeW at *
      rw [List.filter_cons, List.filter_cons, hp]
      simp only [Bool.not_false, if_true, Bool.false_eq_true, if_false]
      exact ⟨by rw [ih.1], ih.2⟩
theorem keep_first {q : Lw.Call} : ∀ (l : List Lw.Wait) (i : Int), 0 ≤ i → idxG (callP q) l i ≥ 0 → ∃ j : Nat, idxG (callP q) l i = i + j ∧ j < l.length ∧ keepW q (l.take (j + 1)) = l.take j ∧ takeW q (l.take (j + 1)) = [l.getD j zeroW]
  | [], i, _, h => by simp [idxG] at h
  | x :: r, i, h0, h => by
    unfold idxG at h ⊢
    cases hp : callP q x with
    | true => exact ⟨0, by simp, by simp, by simp [keepW, hp], by simp [takeW, hp]⟩
    | false =>
      rw [hp] at h
      simp only [cond_false] at h ⊢
      obtain ⟨j, h1, h2, h3, h4⟩ := keep_first r (i + 1) (by omega) h
      refine ⟨j + 1, by rw [h1]; omega, by simp only [List.length_cons]; omega, ?_, ?_⟩
      · unfold keepW at *
        rw [List.take_succ_cons, List.filter_cons, hp, h3]; rfl
      · unfold takeW at *
        rw [List.take_succ_cons, List.filter_cons, hp, h4]; rfl
theorem keep_step {q : Lw.Call} {l : List Lw.Wait} {j : Nat} (h : j < l.length) (z : Lw.Wait) : keepW q (l.take (j + 1)) = keepW q (l.take j) ++ (bif callP q (l.getD j z) then [] else [l.getD j z]) ∧ takeW q (l.take (j + 1)) = takeW q (l.take j) ++ (bif callP q (l.getD j z) then [l.getD j z] else []) := by
  unfold keepW takeW
  rw [List.take_add_one, List.getElem?_eq_getElem h, List.getD_eq_getElem?_getD, List.getElem?_eq_getElem h, Option.getD_some, List.filter_append, List.filter_append]
  constructor
  · congr 1
    cases hp : callP q l[j] <;> simp [hp]
  · cases hp : callP q l[j] <;> simp [hp]
theorem splice_take {α : Type} {xs ys : List α} {lo : Nat} (h : lo ≤ xs.length) : (splice xs lo ys).take lo = xs.take lo := by
  unfold splice
  rw [List.append_assoc, List.take_append_of_le_length (by rw [List.length_take]; omega), List.take_take, Nat.min_self]
theorem car_cond {c : Config} {cars : List Lw.Car} {n f : Int} : (bif bif bif false then true else decide (n < 0) then true else decide (n ≥ cars.length) then true else !floorB c f) = !okC c cars n f := by
  unfold okC
  by_cases h0 : n < 0
  · rw [decide_eq_true h0, decide_eq_false (show ¬ n ≥ 0 by omega)]; rfl
  · rw [decide_eq_false h0, decide_eq_true (show n ≥ 0 by omega)]
    by_cases h1 : n ≥ cars.length
    · rw [decide_eq_true h1, decide_eq_false (show ¬ n < cars.length by omega)]; rfl
    · rw [decide_eq_false h1, decide_eq_true (show n < cars.length by omega)]; simp
theorem okC_iff {c : Config} {cars : List Lw.Car} {n f : Int} (h : okC c cars n f = true) : 0 ≤ n ∧ n < cars.length ∧ floorB c f = true := by
  unfold okC at h
  simp only [Bool.and_eq_true, decide_eq_true_eq] at h
  exact ⟨h.1, h.2.1, h.2.2⟩
theorem floorB_iff {c : Config} {f : Int} (h : floorB c f = true) : 0 ≤ f ∧ f < floorsI c.floors ∧ floorsI c.floors ≤ 64 := by
  unfold floorB at h
  simp only [Bool.and_eq_true, decide_eq_true_eq] at h
  have := floorsI_range c.floors
  omega
theorem zeroC_eq : (RTy.zero .car : Lw.Car) = zeroC := rfl
theorem zeroW_eq : (RTy.zero .wait : Lw.Wait) = zeroW := rfl
theorem loadL_pos {c : Config} {cars : List Lw.Car} {n : Int} (kg : Int) (h : okC c cars n 0 = true) : loadL c cars n kg = modC cars n (setLoad (atC cars n) kg) := if_pos h
theorem loadL_neg {c : Config} {cars : List Lw.Car} {n : Int} (kg : Int) (h : okC c cars n 0 = false) : loadL c cars n kg = cars := if_neg (by rw [h]; decide)
theorem curtL_pos {c : Config} {cars : List Lw.Car} {n : Int} (b : Bool) (h : okC c cars n 0 = true) : curtL c cars n b = modC cars n (setBlk (atC cars n) b) := if_pos h
theorem curtL_neg {c : Config} {cars : List Lw.Car} {n : Int} (b : Bool) (h : okC c cars n 0 = false) : curtL c cars n b = cars := if_neg (by rw [h]; decide)
theorem faultL_pos {c : Config} {cars : List Lw.Car} {n : Int} (b : Bool) (h : okC c cars n 0 = true) : faultL c cars n b = modC cars n (setBrk (atC cars n) b) := if_pos h
theorem faultL_neg {c : Config} {cars : List Lw.Car} {n : Int} (b : Bool) (h : okC c cars n 0 = false) : faultL c cars n b = cars := if_neg (by rw [h]; decide)
theorem faultW_pos {c : Config} {cars : List Lw.Car} {ws : List Lw.Wait} {n : Int} {b : Bool} (h : okC c cars n 0 = true) : faultW c cars ws n b = if b = true then ws.map (freeW n) else ws := by unfold faultW; rw [h]; simp
theorem faultW_neg {c : Config} {cars : List Lw.Car} {ws : List Lw.Wait} {n : Int} {b : Bool} (h : okC c cars n 0 = false) : faultW c cars ws n b = ws := by unfold faultW; rw [h]; simp
theorem aimE_ok {c : Config} {cars : List Lw.Car} {n f : Int} (h : aimE c cars n f = 0) : okC c cars n f = true ∧ (atC cars n).mode = 1 := by
  unfold aimE at h
  cases ho : okC c cars n f
  · rw [ho, if_pos rfl] at h; omega
  · rw [ho, if_neg (by decide)] at h
    by_cases hm : (atC cars n).mode = 1
    · exact ⟨rfl, hm⟩
    · rw [if_neg hm] at h; omega
theorem assign_get (c : Config) (cars : List Lw.Car) (ws : List Lw.Wait) : ∀ (k j : Nat), k ≤ j → (assignN c cars ws k).2.getD j zeroW = ws.getD j zeroW
  | 0, j, _ => rfl
  | k + 1, j, h => by
    have ih := assign_get c cars ws k j (by omega)
    unfold assignN
    split
    · exact ih
    · split
      · simp only
        rw [List.getD_eq_getElem?_getD, List.getElem?_set, if_neg (by omega), ← List.getD_eq_getElem?_getD]; exact ih
      · exact ih
theorem predW_eq {k : Nat} {vs : List Cell} {p : Lw.Wait → Bool} (h : predW k vs = some p) : (k = 103 ∧ ∃ l : Lw.Call, vs = l.enc.map .pl ∧ p = callP l) := by
  unfold predW at h
  cases h0 : Nat.beq k 103 <;> rw [h0] at h <;> simp only [cond_true, cond_false] at h
  case true =>
    have e := Nat.eq_of_beq_eq_true h0
    obtain ⟨l, hl, h⟩ := Option.bind_eq_some_iff.1 h
    cases h
    exact ⟨e, l, Lw.Call.of_eq hl, rfl⟩
  cases h
theorem h103 : Holds Tryz.prog eid 103 (clo_hh) := by
  refine hold tb100_ok Tryz.func103 (by kernel_rfl) ?_ (by kernel_rfl)
  intro xs M t h
  unfold clo_hh at h
  split at h
  case h_2 => cases h
  obtain ⟨x, hx, h1⟩ := Option.bind_eq_some_iff.1 h
  clear h
  obtain ⟨l, hl, h⟩ := Option.bind_eq_some_iff.1 h1
  clear h1
  cases h
  cases Lw.Wait.of_eq hx
  cases Lw.Call.of_eq hl
  refine ⟨fun l h => (nomatch h), ?_⟩
  intro hp
  rw [v103_vc]
  try rw [c_and]
  exact ends_sel [] [0] rfl rfl rfl rfl
theorem tb101_ok : GamOk Tryz.prog eid (gam tb101) := gam_cons h103 tb100_ok
theorem h99 : Holds Tryz.prog eid 99 (cloneCS) := by
  refine hold tb101_ok Tryz.func99 (by kernel_rfl) ?_ (by kernel_rfl)
  intro xs M t h
  unfold cloneCS at h
  split at h <;> cases h
  rename_i ls
  refine ⟨fun l h => (nomatch h), ?_⟩
  intro hp
  have hp : ls.length ≤ bigRow := hp
  rw [v99_vc]
  intro b hb
  refine cnd_iff.2 ⟨fun hc => ?_, fun hc => ?_⟩
  · have hb : b = true := by simpa using hc
    have hz := (by assumption : b = true → ls.length = 0) hb
    obtain rfl : ls = [] := List.eq_nil_of_length_eq_zero hz
    exact ends_sel [.slot 0 .car] [0, 1] rfl rfl rfl rfl
  · exact ⟨by simpa using hp, ends_sel [] [0, 2] rfl rfl rfl rfl⟩
theorem tb102_ok : GamOk Tryz.prog eid (gam tb102) := gam_cons h99 tb101_ok
theorem h145 : Holds Tryz.prog eid 145 (cloneWS) := by
  refine hold tb102_ok Tryz.func145 (by kernel_rfl) ?_ (by kernel_rfl)
  intro xs M t h
  unfold cloneWS at h
  split at h <;> cases h
  rename_i ls
  refine ⟨fun l h => (nomatch h), ?_⟩
  intro hp
  have hp : ls.length ≤ bigRow := hp
  rw [v145_vc]
  intro b hb
  refine cnd_iff.2 ⟨fun hc => ?_, fun hc => ?_⟩
  · have hb : b = true := by simpa using hc
    have hz := (by assumption : b = true → ls.length = 0) hb
    obtain rfl : ls = [] := List.eq_nil_of_length_eq_zero hz
    exact ends_sel [.slot 0 .wait] [0, 1] rfl rfl rfl rfl
  · exact ⟨by simpa using hp, ends_sel [] [0, 2] rfl rfl rfl rfl⟩
theorem tb103_ok : GamOk Tryz.prog eid (gam tb103) := gam_cons h145 tb102_ok
theorem h70 : Holds Tryz.prog eid 70 (tick1S) := by
  refine hold tb103_ok Tryz.func70 (by kernel_rfl) ?_ (by kernel_rfl)
  intro xs M t h
  unfold tick1S at h
  split at h
  case h_2 => cases h
  rename_i k vs out
  obtain ⟨w, hw, h1⟩ := Option.bind_eq_some_iff.1 h
  clear h
  obtain ⟨q, hq, h⟩ := Option.bind_eq_some_iff.1 h1
  clear h1
  cases h
  cases Lw.Wait.of_eq hw
  cases Lw.Call.of_eq hq
  refine ⟨updL rfl, ?_⟩
  intro hp
  have hp : out.length + 1 ≤ bigRow := hp
  rw [v70_vc]
  refine cnd_iff.2 ⟨fun hc => ?_, fun hc => ⟨by simpa using hp, ?_⟩⟩
  · have e : callP q w = false := by rw [Bool.not_eq_true'] at hc; exact hc
    simp only [BT.ev, e, cond_false, List.append_nil]
    exact ends_selD [] [some 0, some 1, none, some 2] rfl rfl rfl rfl
  · have e : callP q w = true := by rw [Bool.not_eq_false'] at hc; exact hc
    simp only [BT.ev, e, cond_true]
    exact ends_selD [] [some 0, some 1, none, some 5] rfl rfl rfl rfl
theorem tb104_ok : GamOk Tryz.prog eid (gam tb104) := gam_cons h70 tb103_ok
theorem h136 : Holds Tryz.prog eid 136 (idxWS) := by
  refine hold tb104_ok Tryz.func136 (by kernel_rfl) ?_ (by kernel_rfl)
  intro xs M t h
  unfold idxWS at h
  split at h
  case h_3 => cases h
  case h_2 =>
    rename_i k l vs out
    cases hk : Nat.beq k 70 <;> rw [hk] at h <;> simp only [cond_true, cond_false] at h
    case false => cases h
    obtain ⟨q, hq, h1⟩ := Option.bind_eq_some_iff.1 h
    clear h
    cases Nat.eq_of_beq_eq_true hk
    cases h1
    cases Lw.Call.of_eq hq
    refine ⟨updL rfl, ?_⟩
    intro hp
    have hp : l.length + out.length ≤ bigRow := hp
    have hbig : bigRow = 1073741824 := rfl
    rw [v136t_vc]
    refine loopVC_selD (S := Int) v136tb_m (fun i => v136tb_fr l q out i) (fun i => v136tb_mem l q out i) (fun i => (l.length - i).toNat) (fun i => 0 ≤ i ∧ i ≤ l.length ∧ idxG (callP q) l 0 = idxG (callP q) (l.drop i.toNat) i) ⟨[], [some 0, some 1, some 2, none, some 3], 0, ⟨by simp, by simp, rfl⟩, _, rfl, rfl, rfl, rfl⟩ ?_
    rintro i ⟨h0, h1, h2⟩
    refine (v136tb_vc l q out i _ _).mpr ?_
    rw [zeroW_eq]
    by_cases hi : i < l.length
    · rw [wrap_id (n := i + 1) (by omega) (by omega)]
      have hs := idxG_step (p := callP q) h0 hi zeroW
      refine cnd_iff.2 ⟨fun _ => ⟨⟨h0, hi⟩, by omega, cnd_iff.2 ⟨fun hb => ?_, fun hb => ?_⟩⟩, fun h => absurd hi (of_decide_eq_false h)⟩
      · rw [hb, cond_true] at hs
        have e : idxG (callP q) l 0 = i := h2.trans hs
        rw [hb]
        simp only [BT.ev, e, if_neg (show ¬ i < 0 by omega), cond_true]
        exact ends_selD [] [some 0, some 1, some 2, none, some 5] rfl rfl rfl rfl
      · rw [hb, cond_false] at hs
        rw [hb, cond_false, List.append_nil]
        exact ⟨[], [some 0, some 1, some 2, none, some 5], i + 1, ⟨⟨by omega, by omega, h2.trans hs⟩, by omega⟩, _, rfl, rfl, rfl, rfl⟩
    · refine cnd_iff.2 ⟨fun h => absurd (of_decide_eq_true h) hi, fun _ => ?_⟩
      rw [List.drop_eq_nil_of_le (by omega)] at h2
      have e : idxG (callP q) l 0 = -1 := h2
      simp only [BT.ev, e, if_pos (show (-1 : Int) < 0 by decide), List.append_nil]
      exact ends_selD [] [some 0, some 1, some 2, none, some 4] rfl rfl rfl rfl
  rename_i k l vs
  obtain ⟨p, hpr, h1⟩ := Option.bind_eq_some_iff.1 h
  clear h
  cases h1
  rcases predW_eq hpr with ⟨rfl, n, rfl, rfl⟩
  · refine ⟨fun l h => (nomatch h), ?_⟩
    intro hp
    have hl : l.length ≤ Go.maxLen := hp
    rw [v136hh_vc]
    refine loopVC_st (S := Int) v136hhb_m 2 (fun i => v136hhb_fr l n i) (fun i => v136hhb_mem l n i) (fun i => (l.length - i).toNat) (fun i => 0 ≤ i ∧ i ≤ l.length ∧ idxG (callP n) l 0 = idxG (callP n) (l.drop i.toNat) i) rfl ⟨0, ⟨by simp, by simp, rfl⟩, rfl, rfl⟩ ?_
    rintro i ⟨h0, h1, h2⟩
    refine (v136hhb_vc l n i _ _).mpr ?_
    have hm := maxLen_eq
    by_cases hi : i < l.length
    · rw [wrap_id (n := i + 1) (by omega) (by omega)]
      have hs := idxG_step (p := callP n) h0 hi (RTy.zero .wait)
      refine cnd_iff.2 ⟨fun _ => ⟨⟨h0, hi⟩, cnd_iff.2 ⟨fun hb => ?_, fun hb => ⟨i + 1, ⟨by omega, by omega, ?_⟩, by omega, rfl, rfl⟩⟩⟩, fun h => absurd hi (of_decide_eq_false h)⟩
      · rw [h2, hs, hb]
        exact ends_sel [] [0, 1] rfl rfl rfl rfl
      · rw [h2, hs, hb]; rfl
    · refine cnd_iff.2 ⟨fun h => absurd (of_decide_eq_true h) hi, fun _ => ?_⟩
      rw [h2, List.drop_eq_nil_of_le (by omega)]
      exact ends_sel [] [0, 1] rfl rfl rfl rfl
theorem tb105_ok : GamOk Tryz.prog eid (gam tb105) := gam_cons h136 tb104_ok
theorem h102 : Holds Tryz.prog eid 102 (contWS) := by
  refine hold tb105_ok Tryz.func102 (by kernel_rfl) ?_ (by kernel_rfl)
  intro xs M t h
  unfold contWS at h
  split at h
  case h_2 => cases h
  rename_i k l vs
  obtain ⟨p, hpr, h1⟩ := Option.bind_eq_some_iff.1 h
  clear h
  cases h1
  obtain ⟨rfl, n, rfl, rfl⟩ := predW_eq hpr
  refine ⟨updN, ?_⟩
  intro hp
  rw [v102hh_vc]
  exact ⟨hp, ends_sel [] [0, 1] rfl rfl rfl rfl⟩
theorem tb106_ok : GamOk Tryz.prog eid (gam tb106) := gam_cons h102 tb105_ok
theorem h69 : Holds Tryz.prog eid 69 (delWS) := by
  refine hold tb106_ok Tryz.func69 (by kernel_rfl) ?_ (by kernel_rfl)
  intro xs M t h
  unfold delWS at h
  split at h
  case h_2 => cases h
  rename_i k l vs out
  cases hk : Nat.beq k 70 <;> rw [hk] at h <;> simp only [cond_true, cond_false] at h
  case false => cases h
  obtain ⟨q, hq, h1⟩ := Option.bind_eq_some_iff.1 h
  clear h
  cases Nat.eq_of_beq_eq_true hk
  cases h1
  cases Lw.Call.of_eq hq
  refine ⟨updL rfl, ?_⟩
  intro hp
  have hp : l.length + out.length ≤ bigRow := hp
  have hbig : bigRow = 1073741824 := rfl
  rw [v69_vc]
  refine ⟨hp, cnd_iff.2 ⟨fun hn => ?_, fun hn => ?_⟩⟩
  · have hn : idxG (callP q) l 0 = -1 := beq_iff_eq.1 hn
    have hk := keep_none l 0 (by omega) (show idxG (callP q) l 0 < 0 by omega)
    rw [hn]
    simp only [BT.ev, hk.1, hk.2, if_pos (show (-1 : Int) < 0 by decide), List.append_nil]
    exact ends_selD [] [none, some 1, some 2, none, some 0, some 4] rfl rfl rfl rfl
  · have hn : idxG (callP q) l 0 ≠ -1 := beq_eq_false_iff_ne.1 hn
    have hr := idxG_range (p := callP q) (l := l) (i := 0) (by omega)
    obtain ⟨j0, e0, hj0, hk0, ht0⟩ := keep_first (q := q) l 0 (by omega) (by omega)
    have e0 : idxG (callP q) l 0 = (j0 : Int) := by rw [e0]; omega
    rw [e0, if_neg (show ¬ (j0 : Int) < 0 by omega)]
    refine loopVC_selD (S := List Lw.Wait × List Lw.Wait × Int × Int) v69b_m (fun s => v69b_fr s.1 q s.2.1 s.2.2.1 s.2.2.2) (fun s => v69b_mem s.1 q s.2.1 s.2.2.1 s.2.2.2) (fun s => (l.length - s.2.2.2).toNat)
      (fun s => s.1.length = l.length ∧ (0 ≤ s.2.2.1 ∧ s.2.2.1 < s.2.2.2 ∧ s.2.2.2 ≤ l.length) ∧ s.1.take s.2.2.1.toNat = keepW q (l.take s.2.2.2.toNat) ∧ s.1.drop s.2.2.2.toNat = l.drop s.2.2.2.toNat ∧ s.2.1 = out ++ takeW q (l.take s.2.2.2.toNat) ∧ (s.2.1.length : Int) ≤ out.length + s.2.2.2)
      ⟨[], [some 0, some 1, some 2, none, some 4], (l, out ++ [l.getD j0 zeroW], (j0 : Int), (j0 : Int) + 1), ⟨rfl, by simp only; omega, ?_, rfl, ?_, by simp only [List.length_append, List.length_cons, List.length_nil]; omega⟩, _, rfl, rfl, ?_, ?_⟩ ?_
    · simp only
      rw [show ((j0 : Int) + 1).toNat = j0 + 1 by omega, Int.toNat_natCast]; exact hk0.symm
    · simp only
      rw [show ((j0 : Int) + 1).toNat = j0 + 1 by omega, ht0]
    · rw [wrap_id (n := (j0 : Int) + 1) (by omega) (by omega)]; rfl
    · rfl
    · rintro ⟨ls, o, i, j⟩ ⟨hl, ⟨h0, h1, h2⟩, hk, hd, ho, hol⟩
      simp only at hl h0 h1 h2 hk hd ho hol
      refine (v69b_vc ls q o i j _ _).mpr ?_
      rw [zeroW_eq]
      by_cases hj : j < l.length
      · have hget : ls.getD j.toNat zeroW = l.getD j.toNat zeroW := by
          have h3 := congrArg (fun x => x[0]?) hd
          simp only [List.getElem?_drop, Nat.add_zero] at h3
          rw [List.getD_eq_getElem?_getD, List.getD_eq_getElem?_getD, h3]
        have hs := keep_step (q := q) (l := l) (j := j.toNat) (by omega) zeroW
        have hj1 : (j + 1).toNat = j.toNat + 1 := by omega
        rw [wrap_id (n := j + 1) (by omega) (by omega), wrap_id (n := i + 1) (by omega) (by omega), hl]
        refine cnd_iff.2 ⟨fun _ => ⟨by omega, by omega, cnd_iff.2 ⟨fun hb => ⟨by omega, ?_⟩, fun hb => ?_⟩⟩, fun h => absurd hj (of_decide_eq_false h)⟩
        · have hb : callP q (ls.getD j.toNat zeroW) = false := by simpa using hb
          rw [hb, cond_false, List.append_nil]
          rw [hget] at hb
          rw [hb] at hs
          refine ⟨[], [some 0, some 1, some 2, none, some 6], (ls.set i.toNat (ls.getD j.toNat zeroW), o, i + 1, j + 1), ⟨⟨by simp only [List.length_set]; exact hl, by simp only; omega, ?_, ?_, ?_, by simp only; omega⟩, by simp only; omega⟩, _, rfl, rfl, rfl, rfl⟩
          · simp only
            rw [hj1, hs.1, cond_false, ← hk, hget, show (i + 1).toNat = i.toNat + 1 by omega, List.take_add_one, List.getElem?_set_self (by omega), List.take_set_of_le (Nat.le_refl _)]; rfl
          · simp only
            rw [hj1, List.drop_set_of_lt (by omega)]
            have := congrArg (List.drop 1) hd
            rw [List.drop_drop, List.drop_drop] at this
            exact this
          · simp only
            rw [hj1, hs.2, cond_false, List.append_nil]; exact ho
        · have hb : callP q (ls.getD j.toNat zeroW) = true := by simpa using hb
          rw [hb, cond_true]
          rw [hget] at hb
          rw [hb] at hs
          refine ⟨[], [some 0, some 1, some 2, none, some 6], (ls, o ++ [ls.getD j.toNat zeroW], i, j + 1), ⟨⟨hl, by simp only; omega, ?_, ?_, ?_, by simp only [List.length_append, List.length_cons, List.length_nil]; omega⟩, by simp only; omega⟩, _, rfl, rfl, rfl, rfl⟩
          · simp only
            rw [hj1, hs.1, cond_true, List.append_nil]; exact hk
          · simp only
            rw [hj1]
            have := congrArg (List.drop 1) hd
            rw [List.drop_drop, List.drop_drop] at this
            exact this
          · simp only
            rw [hj1, hs.2, cond_true, ho, hget, List.append_assoc]
      · have hjl : j.toNat = l.length := by omega
        rw [hjl, List.take_of_length_le (Nat.le_refl _)] at hk ho
        simp only [Int.toNat_zero, Nat.sub_zero, Int.toNat_natCast]
        refine cnd_iff.2 ⟨fun h => absurd (of_decide_eq_true h) (by omega), fun _ => ⟨⟨⟨h0, by omega⟩, by omega⟩, by omega, ⟨⟨by omega, h0⟩, by rw [splice_len (by rw [List.length_replicate]; omega)]; omega⟩, ?_⟩⟩
        refine ends_selD [.cutS 0] [none, some 1, some 2, none, some 5, some 4] rfl rfl rfl ?_
        have e1 := splice_take (xs := ls) (ys := List.replicate (ls.length - i.toNat) zeroW) (lo := i.toNat) (by omega)
        rw [hk] at e1
        rw [ho]
        refine congrArg (fun z => [Blk.dead, Blk.cells (q.enc.map .pl), Blk.cells [Cell.row 5], Blk.dead, Blk.row .wait z, Blk.row .wait (out ++ takeW q l)]) ?_
        exact e1
theorem tb107_ok : GamOk Tryz.prog eid (gam tb107) := gam_cons h69 tb106_ok
theorem h189 : Holds Tryz.prog eid 189 (mulS) := by
  refine hold tb107_ok Tryz.func189 (by kernel_rfl) ?_ (by kernel_rfl)
  intro xs M t h
  unfold mulS at h
  split at h
  case h_2 => cases h
  cases h
  rename_i x y
  refine ⟨updN, ?_⟩
  intro hp
  obtain ⟨rfl, h1, h2⟩ := (hp : x = 1 ∧ 1 ≤ y ∧ y ≤ 8)
  have hy : y = 1 ∨ y = 2 ∨ y = 3 ∨ y = 4 ∨ y = 5 ∨ y = 6 ∨ y = 7 ∨ y = 8 := by omega
  rw [v189_vc]
  rcases hy with rfl | rfl | rfl | rfl | rfl | rfl | rfl | rfl
  all_goals first
    | exact ⟨⟨rfl, by decide, by decide⟩, ends_v rfl rfl⟩
    | exact ⟨by decide, by decide, by decide, by decide, by decide, ends_v (by kernel_rfl) rfl⟩
theorem tb108_ok : GamOk Tryz.prog eid (gam tb108) := gam_cons h189 tb107_ok
theorem h129 : Holds Tryz.prog eid 129 (mulS) := by
  refine hold tb108_ok Tryz.func129 (by kernel_rfl) ?_ (by kernel_rfl)
  intro xs M t h
  unfold mulS at h
  split at h
  case h_2 => cases h
  cases h
  rename_i x y
  refine ⟨updN, ?_⟩
  intro hp
  obtain ⟨rfl, h1, h2⟩ := (hp : x = 1 ∧ 1 ≤ y ∧ y ≤ 8)
  have hy : y = 1 ∨ y = 2 ∨ y = 3 ∨ y = 4 ∨ y = 5 ∨ y = 6 ∨ y = 7 ∨ y = 8 := by omega
  rw [v129_vc]
  rcases hy with rfl | rfl | rfl | rfl | rfl | rfl | rfl | rfl
  all_goals first
    | exact ⟨⟨rfl, by decide, by decide⟩, ends_v rfl rfl⟩
    | exact ⟨by decide, by decide, by decide, by decide, by decide, ends_v (by kernel_rfl) rfl⟩
theorem tb109_ok : GamOk Tryz.prog eid (gam tb109) := gam_cons h129 tb108_ok
theorem h64 : Holds Tryz.prog eid 64 (repS) := by
  refine hold tb109_ok Tryz.func64 (by kernel_rfl) ?_ (by kernel_rfl)
  intro xs M t h
  unfold repS at h
  split at h
  case h_2 => cases h
  cases h
  rename_i n x
  refine ⟨updN, ?_⟩
  intro hp
  obtain ⟨h1, h2⟩ := (hp : 1 ≤ n ∧ n ≤ 8)
  rw [v64_vc]
  have e1 : IntKind.u64.wrap n = n := by rw [IntKind.wrap_u64]; omega
  rw [e1, wrap_id (n := n) (by omega) (by omega)]
  refine cnd_iff.2 ⟨fun h => absurd (of_decide_eq_true h) (by omega), fun _ => ⟨⟨rfl, h1, h2⟩, cnd_iff.2 ⟨fun h => ?_, fun _ => ⟨⟨⟨by omega, by omega⟩, rfl⟩, by simp, ?_⟩⟩⟩⟩
  · rw [c_or, Bool.or_eq_true, decide_eq_true_eq, decide_eq_true_eq] at h
    omega
  · refine loopVC_sel (S := Int × List Lw.Car) v64b_m (fun s => v64b_fr x s.1 s.2) (fun s => v64b_mem x s.1 s.2) (fun s => (n - s.1).toNat) (fun s => (1 ≤ s.1 ∧ s.1 ≤ n) ∧ (s.2.length : Int) = n ∧ s.2.take s.1.toNat = List.replicate s.1.toNat x) ⟨[], [0, 1], (1, splice (List.replicate n.toNat zeroC) 0 [x]), ⟨by simp only; omega, ?_, ?_⟩, _, rfl, rfl, ?_, ?_⟩ ?_
    · simp only
      rw [splice_len (by simp only [List.length_replicate, List.length_cons, List.length_nil]; omega), List.length_replicate]; omega
    · simp only [splice, List.take_zero, List.nil_append]; rfl
    · obtain ⟨m, hm⟩ : ∃ m, n.toNat = m + 1 := ⟨n.toNat - 1, by omega⟩
      rw [hm]
      simp only [List.length_replicate, List.length_cons, List.length_nil]
      rw [show Nat.min (0 + 1) (m + 1) = 1 from (Nat.min_def).trans (if_pos (by omega))]
      rfl
    · obtain ⟨m, hm⟩ : ∃ m, n.toNat = m + 1 := ⟨n.toNat - 1, by omega⟩
      rw [hm]
      simp only [List.length_replicate, List.take_succ_cons, List.take_nil]
      rfl
    · rintro ⟨k, xs⟩ ⟨⟨h3, h4⟩, hl, ht⟩
      simp only at h3 h4 hl ht
      refine (v64b_vc x k xs _ _).mpr ?_
      simp only [Int.toNat_zero, Nat.sub_zero, Int.toNat_natCast]
      by_cases hk : k < xs.length
      · refine cnd_iff.2 ⟨fun _ => ⟨by omega, by omega, by omega, ?_⟩, fun h => absurd hk (of_decide_eq_false h)⟩
        have hmin : Nat.min k.toNat (xs.length - k.toNat) = if k.toNat ≤ xs.length - k.toNat then k.toNat else xs.length - k.toNat := Nat.min_def
        have hc : (List.take k.toNat (List.drop 0 xs)).length = k.toNat := by rw [List.drop_zero, List.length_take]; omega
        have hd : Nat.min k.toNat (xs.length - k.toNat) ≤ k.toNat ∧ Nat.min k.toNat (xs.length - k.toNat) ≤ xs.length - k.toNat ∧ 1 ≤ Nat.min k.toNat (xs.length - k.toNat) := by rw [hmin]; split <;> omega
        have hmm : min k.toNat (xs.length - k.toNat) = Nat.min k.toNat (xs.length - k.toNat) := rfl
        refine ⟨[], [0, 1], (k + (Nat.min k.toNat (xs.length - k.toNat) : Nat), splice xs k.toNat (List.replicate (Nat.min k.toNat (xs.length - k.toNat)) x)), ⟨⟨by simp only; omega, ?_, ?_⟩, by simp only; omega⟩, _, rfl, rfl, ?_, ?_⟩
        · simp only
          rw [splice_len (by rw [List.length_replicate]; omega)]; exact hl
        · simp only
          unfold splice
          rw [ht, show (k + (Nat.min k.toNat (xs.length - k.toNat) : Nat) : Int).toNat = k.toNat + Nat.min k.toNat (xs.length - k.toNat) by omega, List.replicate_append_replicate, List.take_append_of_le_length (by rw [List.length_replicate]; omega), List.take_of_length_le (by rw [List.length_replicate]; omega)]
        · rw [hc, wrap_id (n := k + (Nat.min k.toNat (xs.length - k.toNat) : Nat)) (by omega) (by omega)]; rfl
        · rw [show List.take (xs.length - k.toNat) (List.take k.toNat (List.drop 0 xs)) = List.replicate (Nat.min k.toNat (xs.length - k.toNat)) x by
            rw [List.drop_zero, ht, List.take_replicate]; congr 1; rw [Nat.min_comm]]
          rfl
      · refine cnd_iff.2 ⟨fun h => absurd (of_decide_eq_true h) hk, fun _ => ?_⟩
        have e : xs = List.replicate n.toNat x := by
          rw [List.take_of_length_le (by omega), show k.toNat = n.toNat by omega] at ht; exact ht
        rw [e]
        exact ends_sel [] [0, 1] rfl rfl rfl rfl
theorem tb110_ok : GamOk Tryz.prog eid (gam tb110) := gam_cons h64 tb109_ok
theorem h20 : Holds Tryz.prog eid 20 (newGS) := by
  refine hold tb110_ok Tryz.func20 (by kernel_rfl) ?_ (by kernel_rfl)
  intro xs M t h
  unfold newGS at h
  split at h
  case h_2 => cases h
  obtain ⟨c, hc, h1⟩ := Option.bind_eq_some_iff.1 h
  clear h
  cases h1
  cases Lw.Config.of_eq hc
  refine ⟨updN, ?_⟩
  intro hp
  rw [v20_vc, mm_clamp (show (1 : Int) ≤ 8 by decide)]
  exact ⟨clampI_range (by decide) _, ends_sel [.blk 3 19 .wait] [3, 2, 4] rfl rfl rfl rfl⟩
theorem tb111_ok : GamOk Tryz.prog eid (gam tb111) := gam_cons h20 tb110_ok
theorem h101 : Holds Tryz.prog eid 101 (floorGS) := by
  refine hold tb111_ok Tryz.func101 (by kernel_rfl) ?_ (by kernel_rfl)
  intro xs M t h
  unfold floorGS at h
  split at h
  case h_2 => cases h
  rename_i n vs cars ws
  obtain ⟨c, now, rfl, h1⟩ := grpS_eq h
  clear h
  cases h1
  refine ⟨updN, ?_⟩
  intro hp
  rw [v101_vc, c_and]
  exact ends_sel [] [0, 1, 2] rfl rfl rfl rfl
theorem tb112_ok : GamOk Tryz.prog eid (gam tb112) := gam_cons h101 tb111_ok
theorem h104 : Holds Tryz.prog eid 104 (carGS) := by
  refine hold tb112_ok Tryz.func104 (by kernel_rfl) ?_ (by kernel_rfl)
  intro xs M t h
  unfold carGS at h
  split at h
  · cases h
    refine ⟨updN, ?_⟩
    intro hp
    rw [v104n_vc]
    exact ends_v rfl rfl
  · rename_i n f vs cars ws
    obtain ⟨c, now, rfl, h1⟩ := grpS_eq h
    clear h
    cases h1
    refine ⟨br_none, ?_⟩
    intro hp
    rw [v104_vc]
    rw [car_cond]
    refine cnd_iff.2 ⟨fun h => ?_, fun h => ?_⟩
    · have h : okC c cars n f = false := by simpa using h
      simp only [BT.ev, h, cond_false]
      exact ends_sel [] [0, 1, 2] rfl rfl rfl rfl
    · have h : okC c cars n f = true := by simpa using h
      have hi := okC_iff h
      simp only [BT.ev, h, cond_true]
      exact ⟨⟨hi.1, hi.2.1⟩, ends_sel [] [0, 1, 2] rfl rfl rfl rfl⟩
  · cases h
theorem tb113_ok : GamOk Tryz.prog eid (gam tb113) := gam_cons h104 tb112_ok
theorem h49 : Holds Tryz.prog eid 49 (hallGS) := by
  refine hold tb113_ok Tryz.func49 (by kernel_rfl) ?_ (by kernel_rfl)
  intro xs M t h
  unfold hallGS at h
  split at h
  · cases h
    refine ⟨updN, ?_⟩
    intro hp
    rw [v49n_vc]
    exact ends_pl rfl
  · rename_i f w vs cars ws
    obtain ⟨c, now, rfl, h1⟩ := grpS_eq h
    clear h
    cases h1
    refine ⟨updL rfl, ?_⟩
    intro hp
    rw [v49_vc]
    have hp : ws.length + 1 ≤ bigRow := hp
    have hbig : bigRow = 1073741824 := rfl
    have hm := maxLen_eq
    have no (k : Int) (hk : k ≠ 0) (e : hallE c f w = k) : hallW c ws now f w = ws := if_neg (by rw [e]; exact fun z => hk z.1)
    rw [show (bif false then true else !floorB c f) = !floorB c f from rfl]
    refine cnd_iff.2 ⟨fun h1 => ?_, fun h1 => ?_⟩
    · have e : hallE c f w = 1 := if_pos (by simpa using h1)
      simp only [BT.ev, e, no 1 (by decide) e]
      exact ends_selD [] [some 0, some 1, none, some 2] rfl rfl rfl rfl
    have h1 : floorB c f = true := by simpa using h1
    have hf := floorB_iff h1
    have n1 : ¬ floorB c f = false := by rw [h1]; decide
    rw [wrap_id (n := f + 1) (by omega) (by omega)]
    refine cnd_iff.2 ⟨fun h2 => cnd_iff.2 ⟨fun h3 => ?_, fun h3 => ⟨by omega, cnd_iff.2 ⟨fun h4 => ⟨by simpa using hp, ?_⟩, fun h4 => ?_⟩⟩⟩, fun h2 => cnd_iff.2 ⟨fun h3 => cnd_iff.2 ⟨fun h5 => ?_, fun h5 => ⟨by omega, cnd_iff.2 ⟨fun h4 => ⟨by simpa using hp, ?_⟩, fun h4 => ?_⟩⟩⟩, fun h3 => ?_⟩⟩
    · have e : hallE c f w = 1 := (if_neg n1).trans ((if_pos (beq_iff_eq.1 h2)).trans (if_neg (by simpa using h3)))
      simp only [BT.ev, e, no 1 (by decide) e]
      exact ends_selD [] [some 0, some 1, none, some 2] rfl rfl rfl rfl
    · have e : hallE c f w = 0 := (if_neg n1).trans ((if_pos (beq_iff_eq.1 h2)).trans (if_pos (by simpa using h3)))
      have e2 : hallW c ws now f w = ws ++ [⟨f, w, -1, now⟩] := if_pos ⟨e, by rw [Bool.not_eq_true', decide_eq_false_iff_not] at h4; omega⟩
      simp only [BT.ev, e, e2]
      exact ends_selD [] [some 0, some 1, none, some 5] rfl rfl rfl rfl
    · have e : hallE c f w = 0 := (if_neg n1).trans ((if_pos (beq_iff_eq.1 h2)).trans (if_pos (by simpa using h3)))
      have e2 : hallW c ws now f w = ws := if_neg (fun z => by rw [Bool.not_eq_false', decide_eq_true_eq] at h4; omega)
      simp only [BT.ev, e, e2]
      exact ends_selD [] [some 0, some 1, none, some 2] rfl rfl rfl rfl
    · have e : hallE c f w = 1 := (if_neg n1).trans ((if_neg (beq_eq_false_iff_ne.1 h2)).trans ((if_pos (beq_iff_eq.1 h3)).trans (if_pos (beq_iff_eq.1 h5))))
      simp only [BT.ev, e, no 1 (by decide) e]
      exact ends_selD [] [some 0, some 1, none, some 2] rfl rfl rfl rfl
    · have e : hallE c f w = 0 := (if_neg n1).trans ((if_neg (beq_eq_false_iff_ne.1 h2)).trans ((if_pos (beq_iff_eq.1 h3)).trans (if_neg (beq_eq_false_iff_ne.1 h5))))
      have e2 : hallW c ws now f w = ws ++ [⟨f, w, -1, now⟩] := if_pos ⟨e, by rw [Bool.not_eq_true', decide_eq_false_iff_not] at h4; omega⟩
      simp only [BT.ev, e, e2]
      exact ends_selD [] [some 0, some 1, none, some 5] rfl rfl rfl rfl
    · have e : hallE c f w = 0 := (if_neg n1).trans ((if_neg (beq_eq_false_iff_ne.1 h2)).trans ((if_pos (beq_iff_eq.1 h3)).trans (if_neg (beq_eq_false_iff_ne.1 h5))))
      have e2 : hallW c ws now f w = ws := if_neg (fun z => by rw [Bool.not_eq_false', decide_eq_true_eq] at h4; omega)
      simp only [BT.ev, e, e2]
      exact ends_selD [] [some 0, some 1, none, some 2] rfl rfl rfl rfl
    · have e : hallE c f w = 1 := (if_neg n1).trans ((if_neg (beq_eq_false_iff_ne.1 h2)).trans (if_neg (beq_eq_false_iff_ne.1 h3)))
      simp only [BT.ev, e, no 1 (by decide) e]
      exact ends_selD [] [some 0, some 1, none, some 2] rfl rfl rfl rfl
  · cases h
theorem tb114_ok : GamOk Tryz.prog eid (gam tb114) := gam_cons h49 tb113_ok
theorem h50 : Holds Tryz.prog eid 50 (pressGS) := by
  refine hold tb114_ok Tryz.func50 (by kernel_rfl) ?_ (by kernel_rfl)
  intro xs M t h
  unfold pressGS at h
  split at h
  · cases h
    refine ⟨updN, ?_⟩
    intro hp
    rw [v50n_vc]
    exact ends_pl rfl
  · rename_i n f vs cars ws
    obtain ⟨c, now, rfl, h1⟩ := grpS_eq h
    clear h
    cases h1
    refine ⟨updL rfl, ?_⟩
    intro hp
    rw [v50_vc]
    refine cnd_iff.2 ⟨fun h1 => cnd_iff.2 ⟨fun h2 => ?_, fun h2 => ?_⟩, fun h1 => ?_⟩
    · have e : pressE c cars n f = 7 := (if_neg (by rw [h1]; decide)).trans (if_pos (by rw [c_or, Bool.or_eq_true, bne_iff_ne] at h2; exact h2))
      have e2 : pressL c cars n f = cars := if_neg (by rw [e]; decide)
      simp only [BT.ev, e, e2]
      exact ends_sel [] [0, 1, 2] rfl rfl rfl rfl
    · have e : pressE c cars n f = 0 := (if_neg (by rw [h1]; decide)).trans (if_neg (by rw [c_or, Bool.or_eq_false_iff, bne_eq_false_iff_eq] at h2; exact fun z => z.elim (fun z => absurd (z.symm.trans h2.1) (by decide)) (fun z => z h2.2)))
      have e2 : pressL c cars n f = modC cars n (setStops (atC cars n) (pressS (atC cars n).stops f)) := if_pos e
      simp only [BT.ev, e, e2]
      exact ends_sel [] [0, 1, 2] rfl rfl rfl rfl
    · have e : pressE c cars n f = 1 := if_pos h1
      have e2 : pressL c cars n f = cars := if_neg (by rw [e]; decide)
      simp only [BT.ev, e, e2]
      exact ends_sel [] [0, 1, 2] rfl rfl rfl rfl
  · cases h
theorem tb115_ok : GamOk Tryz.prog eid (gam tb115) := gam_cons h50 tb114_ok
theorem h107 : Holds Tryz.prog eid 107 (load1S) := by
  refine hold tb115_ok Tryz.func107 (by kernel_rfl) ?_ (by kernel_rfl)
  intro xs M t h
  unfold load1S at h
  split at h <;> cases h
  refine ⟨updL rfl, ?_⟩
  intro hp
  rw [v107_vc]
  exact ends_sel [] [0, 1] rfl rfl rfl rfl
theorem tb116_ok : GamOk Tryz.prog eid (gam tb116) := gam_cons h107 tb115_ok
theorem h108 : Holds Tryz.prog eid 108 (curt1S) := by
  refine hold tb116_ok Tryz.func108 (by kernel_rfl) ?_ (by kernel_rfl)
  intro xs M t h
  unfold curt1S at h
  split at h <;> cases h
  refine ⟨updL rfl, ?_⟩
  intro hp
  rw [v108_vc]
  exact ends_sel [] [0, 1] rfl rfl rfl rfl
theorem tb117_ok : GamOk Tryz.prog eid (gam tb117) := gam_cons h108 tb116_ok
theorem h109 : Holds Tryz.prog eid 109 (fault1S) := by
  refine hold tb117_ok Tryz.func109 (by kernel_rfl) ?_ (by kernel_rfl)
  intro xs M t h
  unfold fault1S at h
  split at h
  case h_2 => cases h
  rename_i i cars b n vs ws
  obtain ⟨c, now, rfl, h1⟩ := grpS_eq h
  clear h
  cases h1
  refine ⟨updL rfl, ?_⟩
  intro hp
  obtain ⟨hi, hl⟩ := (hp : i < cars.length ∧ ws.length ≤ Go.maxLen)
  have hm := maxLen_eq
  rw [v109_vc]
  cases b
  · refine cnd_iff.2 ⟨fun _ => ?_, fun h => absurd h (by decide)⟩
    exact ends_sel [] [0, 1, 2, 3, 4, 5] rfl rfl rfl rfl
  · refine cnd_iff.2 ⟨fun h => absurd h (by decide), fun _ => ?_⟩
    have ec : putAt .car (putAt .car cars i 8 [PC.bool true]) i 12 [PC.int .u64 0, PC.int .u64 0, PC.int .u64 0] = cars.set i (setBrk (cars.getD i zeroC) true) := by
      rw [show putAt .car cars i 8 [PC.bool true] = cars.set i ({ cars.getD i zeroC with broken := true } : Lw.Car) from rfl]
      exact putAt_set (t := .car) hi
    rw [ec]
    refine loopVC_sel (S := Int) v109b_m (fun k => v109b_fr c now (cars.set i (setBrk (cars.getD i zeroC) true)) (mixN (freeW n) ws k.toNat) i true n ws.length k) (fun k => v109b_mem c now (cars.set i (setBrk (cars.getD i zeroC) true)) (mixN (freeW n) ws k.toNat) i true n ws.length k) (fun k => (ws.length - k).toNat) (fun k => 0 ≤ k ∧ k ≤ ws.length) ⟨[], [0, 1, 2, 3, 4, 5], 0, ⟨by simp, by simp⟩, _, rfl, rfl, rfl, by dsimp only; rw [show (0 : Int).toNat = 0 from rfl, mix_zero]; rfl⟩ ?_
    rintro k ⟨h0, h1⟩
    refine (v109b_vc c now _ _ i true n _ k _ _).mpr ?_
    rw [zeroW_eq]
    by_cases hk : k < ws.length
    · rw [mix_get (f := freeW n) (xs := ws) (i := k.toNat) (by omega) zeroW, wrap_id (n := k + 1) (by omega) (by omega)]
      have hk1 : (k + 1).toNat = k.toNat + 1 := by omega
      have hs := mix_set (f := freeW n) (xs := ws) (i := k.toNat) (by omega) zeroW
      have hg := mix_get (f := freeW n) (xs := ws) (i := k.toNat) (by omega) zeroW
      refine cnd_iff.2 ⟨fun _ => ⟨by rw [mix_len]; omega, cnd_iff.2 ⟨fun hc => ⟨by rw [mix_len]; omega, ?_⟩, fun hc => ?_⟩⟩, fun h => absurd hk (of_decide_eq_false h)⟩
      · have ew : putAt .wait (mixN (freeW n) ws k.toNat) k.toNat 2 [PC.int .i64 (-1)] = mixN (freeW n) ws (k.toNat + 1) := by
          rw [← hs, show putAt .wait (mixN (freeW n) ws k.toNat) k.toNat 2 [PC.int .i64 (-1)] = (mixN (freeW n) ws k.toNat).set k.toNat ({ (mixN (freeW n) ws k.toNat).getD k.toNat zeroW with car := -1 } : Lw.Wait) from rfl, hg]
          unfold freeW
          rw [if_pos (beq_iff_eq.1 hc)]
        rw [ew]
        refine ⟨[], [0, 1, 2, 3, 4, 5], k + 1, ⟨⟨by omega, by omega⟩, by omega⟩, _, rfl, rfl, rfl, ?_⟩
        dsimp only
        rw [hk1]; rfl
      · have ew := mix_skip (f := freeW n) (xs := ws) (i := k.toNat) (by omega) zeroW (if_neg (beq_eq_false_iff_ne.1 hc))
        rw [ew]
        refine ⟨[], [0, 1, 2, 3, 4, 5], k + 1, ⟨⟨by omega, by omega⟩, by omega⟩, _, rfl, rfl, rfl, ?_⟩
        dsimp only
        rw [hk1]; rfl
    · refine cnd_iff.2 ⟨fun h => absurd (of_decide_eq_true h) hk, fun _ => ?_⟩
      rw [show k.toNat = ws.length by omega, mix_end]
      exact ends_sel [] [0, 1, 2, 3, 4, 5] rfl rfl rfl rfl
theorem tb118_ok : GamOk Tryz.prog eid (gam tb118) := gam_cons h109 tb117_ok
theorem h106 : Holds Tryz.prog eid 106 (setGS) := by
  refine hold tb118_ok Tryz.func106 (by kernel_rfl) ?_ (by kernel_rfl)
  intro xs M t h
  unfold setGS at h
  split at h
  · rename_i n k kg
    cases hk : Nat.beq k 107 <;> rw [hk] at h <;> simp only [cond_true, cond_false] at h
    case false => cases h
    cases Nat.eq_of_beq_eq_true hk
    cases h
    refine ⟨updN, ?_⟩
    intro hp
    rw [v106ln_vc]
    exact ends_sel [] [0] rfl rfl rfl rfl
  · rename_i n k b
    cases hk : Nat.beq k 108 <;> rw [hk] at h <;> simp only [cond_true, cond_false] at h
    case false => cases h
    cases Nat.eq_of_beq_eq_true hk
    cases h
    refine ⟨updN, ?_⟩
    intro hp
    rw [v106cn_vc]
    exact ends_sel [] [0] rfl rfl rfl rfl
  · rename_i n k b m
    cases hk : Nat.beq k 109 <;> rw [hk] at h <;> simp only [cond_true, cond_false] at h
    case false => cases h
    cases Nat.eq_of_beq_eq_true hk
    cases h
    refine ⟨updN, ?_⟩
    intro hp
    rw [v106fn_vc]
    exact ends_sel [] [0, 1, 2] rfl rfl rfl rfl
  · rename_i n k vs kg cars ws
    cases hk : Nat.beq k 107 <;> rw [hk] at h <;> simp only [cond_true, cond_false] at h
    case false => cases h
    cases Nat.eq_of_beq_eq_true hk
    obtain ⟨c, now, rfl, h1⟩ := grpS_eq h
    clear h
    cases h1
    refine ⟨updL rfl, ?_⟩
    intro hp
    rw [v106l_vc]
    refine cnd_iff.2 ⟨fun h1 => ?_, fun h1 => ?_⟩
    · have e : csetE c cars n = 0 := if_pos h1
      have e2 := loadL_pos kg h1
      simp only [BT.ev, e, e2]
      exact ends_sel [] [0, 1, 2, 3] rfl rfl rfl rfl
    · have e : csetE c cars n = 1 := if_neg (by rw [h1]; decide)
      have e2 := loadL_neg kg h1
      simp only [BT.ev, e, e2]
      exact ends_sel [] [0, 1, 2, 3] rfl rfl rfl rfl
  · rename_i n k vs b cars ws
    cases hk : Nat.beq k 108 <;> rw [hk] at h <;> simp only [cond_true, cond_false] at h
    case false => cases h
    cases Nat.eq_of_beq_eq_true hk
    obtain ⟨c, now, rfl, h1⟩ := grpS_eq h
    clear h
    cases h1
    refine ⟨updL rfl, ?_⟩
    intro hp
    rw [v106c_vc]
    refine cnd_iff.2 ⟨fun h1 => ?_, fun h1 => ?_⟩
    · have e : csetE c cars n = 0 := if_pos h1
      have e2 := curtL_pos b h1
      simp only [BT.ev, e, e2]
      exact ends_sel [] [0, 1, 2, 3] rfl rfl rfl rfl
    · have e : csetE c cars n = 1 := if_neg (by rw [h1]; decide)
      have e2 := curtL_neg b h1
      simp only [BT.ev, e, e2]
      exact ends_sel [] [0, 1, 2, 3] rfl rfl rfl rfl
  · rename_i n k vs b m cars ws
    cases hk : Nat.beq k 109 <;> rw [hk] at h <;> simp only [cond_true, cond_false] at h
    case false => cases h
    cases Nat.eq_of_beq_eq_true hk
    obtain ⟨c, now, rfl, h1⟩ := grpS_eq h
    clear h
    cases h1
    refine ⟨updL rfl, ?_⟩
    intro hp
    rw [v106f_vc]
    refine cnd_iff.2 ⟨fun h1 => ?_, fun h1 => ?_⟩
    · have e : csetE c cars n = 0 := if_pos h1
      have e2 := faultL_pos b h1
      obtain ⟨rfl, hl⟩ := (hp : m = n ∧ ws.length ≤ Go.maxLen)
      have hi := okC_iff h1
      have e3 := faultW_pos (ws := ws) (b := b) h1
      simp only [BT.ev, e, e2, e3]
      exact ⟨⟨by omega, hl⟩, ends_sel [] [0, 1, 2, 3, 4, 5] rfl rfl rfl rfl⟩
    · have e : csetE c cars n = 1 := if_neg (by rw [h1]; decide)
      have e2 := faultL_neg b h1
      have e3 := faultW_neg (ws := ws) (b := b) h1
      simp only [BT.ev, e, e2, e3]
      exact ends_sel [] [0, 1, 2, 3, 4, 5] rfl rfl rfl rfl
  · cases h
theorem tb119_ok : GamOk Tryz.prog eid (gam tb119) := gam_cons h106 tb118_ok
theorem h51 : Holds Tryz.prog eid 51 (loadGS) := by
  refine hold tb119_ok Tryz.func51 (by kernel_rfl) ?_ (by kernel_rfl)
  intro xs M t h
  unfold loadGS at h
  split at h
  · cases h
    refine ⟨updN, ?_⟩
    intro hp
    rw [v51n_vc]
    exact ends_pl rfl
  · rename_i n kg vs cars ws
    obtain ⟨c, now, rfl, h1⟩ := grpS_eq h
    clear h
    cases h1
    refine ⟨updL rfl, ?_⟩
    intro hp
    rw [v51_vc]
    exact ends_sel [] [0, 1, 2] rfl rfl rfl rfl
  · cases h
theorem tb120_ok : GamOk Tryz.prog eid (gam tb120) := gam_cons h51 tb119_ok
theorem h52 : Holds Tryz.prog eid 52 (curtGS) := by
  refine hold tb120_ok Tryz.func52 (by kernel_rfl) ?_ (by kernel_rfl)
  intro xs M t h
  unfold curtGS at h
  split at h
  · cases h
    refine ⟨updN, ?_⟩
    intro hp
    rw [v52n_vc]
    exact ends_pl rfl
  · rename_i n b vs cars ws
    obtain ⟨c, now, rfl, h1⟩ := grpS_eq h
    clear h
    cases h1
    refine ⟨updL rfl, ?_⟩
    intro hp
    rw [v52_vc]
    exact ends_sel [] [0, 1, 2] rfl rfl rfl rfl
  · cases h
theorem tb121_ok : GamOk Tryz.prog eid (gam tb121) := gam_cons h52 tb120_ok
theorem h53 : Holds Tryz.prog eid 53 (faultGS) := by
  refine hold tb121_ok Tryz.func53 (by kernel_rfl) ?_ (by kernel_rfl)
  intro xs M t h
  unfold faultGS at h
  split at h
  · cases h
    refine ⟨updN, ?_⟩
    intro hp
    rw [v53n_vc]
    exact ends_pl rfl
  · rename_i n b vs cars ws
    obtain ⟨c, now, rfl, h1⟩ := grpS_eq h
    clear h
    cases h1
    refine ⟨updL rfl, ?_⟩
    intro hp
    rw [v53_vc]
    exact ⟨⟨rfl, hp⟩, ends_sel [] [0, 1, 2] rfl rfl rfl rfl⟩
  · cases h
theorem tb122_ok : GamOk Tryz.prog eid (gam tb122) := gam_cons h53 tb121_ok
theorem h74 : Holds Tryz.prog eid 74 (takeGS) := by
  refine hold tb122_ok Tryz.func74 (by kernel_rfl) ?_ (by kernel_rfl)
  intro xs M t h
  unfold takeGS at h
  split at h
  · cases h
    refine ⟨updN, ?_⟩
    intro hp
    rw [v74n_vc]
    exact ends_pl rfl
  · rename_i n f vs cars ws
    obtain ⟨c, now, rfl, h1⟩ := grpS_eq h
    clear h
    cases h1
    refine ⟨updL rfl, ?_⟩
    intro hp
    rw [v74_vc]
    have hp : mildL cars := hp
    refine cnd_iff.2 ⟨fun h1 => ⟨(hp.2 _ (atC_mem (okC_iff h1).1 (okC_iff h1).2.1)).1, cnd_iff.2 ⟨fun h2 => ?_, fun h2 => ?_⟩⟩, fun h1 => ?_⟩
    · have e : takeE c cars n f = 7 := (if_neg (by rw [h1]; decide)).trans (if_neg (by rw [Bool.not_eq_true'] at h2; exact fun z => absurd (z.symm.trans h2) (by decide)))
      have e2 : takeL c cars n f = cars := if_neg (by rw [e]; decide)
      simp only [BT.ev, e, e2]
      exact ends_sel [] [0, 1, 2] rfl rfl rfl rfl
    · have e : takeE c cars n f = 0 := (if_neg (by rw [h1]; decide)).trans (if_pos (by rw [Bool.not_eq_false'] at h2; exact h2))
      have e2 : takeL c cars n f = modC cars n (setTake (atC cars n) f) := if_pos e
      have hi : n.toNat < cars.length := by have := okC_iff h1; omega
      have ec : putAt .car (putAt .car (putAt .car cars n.toNat 9 [PC.int .i64 1]) n.toNat 10 [PC.int .i64 f]) n.toNat 11 [PC.bool true] = modC cars n (setTake (atC cars n) f) := by
        rw [show putAt .car cars n.toNat 9 [PC.int .i64 1] = cars.set n.toNat ({ atC cars n with mode := 1 } : Lw.Car) from rfl, putAt_set (t := .car) hi]
        exact putAt_set (t := .car) hi
      rw [ec]
      simp only [BT.ev, e, e2]
      exact ends_sel [] [0, 1, 2] rfl rfl rfl rfl
    · have e : takeE c cars n f = 1 := if_pos h1
      have e2 : takeL c cars n f = cars := if_neg (by rw [e]; decide)
      simp only [BT.ev, e, e2]
      exact ends_sel [] [0, 1, 2] rfl rfl rfl rfl
  · cases h
theorem tb123_ok : GamOk Tryz.prog eid (gam tb123) := gam_cons h74 tb122_ok
theorem h147 : Holds Tryz.prog eid 147 (leasedGS) := by
  refine hold tb123_ok Tryz.func147 (by kernel_rfl) ?_ (by kernel_rfl)
  intro xs M t h
  unfold leasedGS at h
  split at h
  · cases h
    refine ⟨updN, ?_⟩
    intro hp
    rw [v147n_vc]
    exact ends_v rfl rfl
  · rename_i n f vs cars ws
    obtain ⟨c, now, rfl, h1⟩ := grpS_eq h
    clear h
    cases h1
    refine ⟨br_none, ?_⟩
    intro hp
    rw [v147_vc]
    refine cnd_iff.2 ⟨fun h1 => cnd_iff.2 ⟨fun h2 => ?_, fun h2 => ?_⟩, fun h1 => ?_⟩
    · have e : aimE c cars n f = 7 := (if_neg (by rw [h1]; decide)).trans (if_neg (bne_iff_ne.1 h2))
      simp only [BT.ev, e, show decide ((7 : Int) = 0) = false from rfl, cond_false]
      exact ends_sel [] [0, 1, 2] rfl rfl rfl rfl
    · have e : aimE c cars n f = 0 := (if_neg (by rw [h1]; decide)).trans (if_pos (bne_eq_false_iff_eq.1 h2))
      simp only [BT.ev, e, show decide ((0 : Int) = 0) = true from rfl, cond_true]
      exact ends_sel [] [0, 1, 2] rfl rfl rfl rfl
    · have e : aimE c cars n f = 1 := if_pos h1
      simp only [BT.ev, e, show decide ((1 : Int) = 0) = false from rfl, cond_false]
      exact ends_sel [] [0, 1, 2] rfl rfl rfl rfl
  · cases h
theorem tb124_ok : GamOk Tryz.prog eid (gam tb124) := gam_cons h147 tb123_ok
theorem h75 : Holds Tryz.prog eid 75 (aimGS) := by
  refine hold tb124_ok Tryz.func75 (by kernel_rfl) ?_ (by kernel_rfl)
  intro xs M t h
  unfold aimGS at h
  split at h
  · cases h
    refine ⟨updN, ?_⟩
    intro hp
    rw [v75n_vc]
    exact ends_pl rfl
  · rename_i n f b vs cars ws
    obtain ⟨c, now, rfl, h1⟩ := grpS_eq h
    clear h
    cases h1
    refine ⟨updL rfl, ?_⟩
    intro hp
    rw [v75_vc]
    refine cnd_iff.2 ⟨fun h1 => ?_, fun h1 => cnd_iff.2 ⟨fun h2 => absurd (beq_iff_eq.1 h2) (of_decide_eq_false h1), fun _ => ?_⟩⟩
    · have e := of_decide_eq_true h1
      have hi : n.toNat < cars.length := by have := okC_iff (aimE_ok e).1; omega
      have e2 : aimL c cars n f b = modC cars n (setAim (atC cars n) f b) := if_pos e
      have ec : putAt .car (putAt .car cars n.toNat 10 [PC.int .i64 f]) n.toNat 11 [PC.bool b] = modC cars n (setAim (atC cars n) f b) := by
        rw [show putAt .car cars n.toNat 10 [PC.int .i64 f] = cars.set n.toNat ({ atC cars n with target := f } : Lw.Car) from rfl]
        exact putAt_set (t := .car) hi
      rw [ec]
      simp only [BT.ev, e, e2]
      exact ends_sel [] [0, 1, 2] rfl rfl rfl rfl
    · have e2 : aimL c cars n f b = cars := if_neg (of_decide_eq_false h1)
      simp only [BT.ev, e2]
      exact ends_sel [] [0, 1, 2] rfl rfl rfl rfl
  · cases h
theorem tb125_ok : GamOk Tryz.prog eid (gam tb125) := gam_cons h75 tb124_ok
theorem h76 : Holds Tryz.prog eid 76 (giveGS) := by
  refine hold tb125_ok Tryz.func76 (by kernel_rfl) ?_ (by kernel_rfl)
  intro xs M t h
  unfold giveGS at h
  split at h
  · cases h
    refine ⟨updN, ?_⟩
    intro hp
    rw [v76n_vc]
    exact ends_pl rfl
  · rename_i n vs cars ws
    obtain ⟨c, now, rfl, h1⟩ := grpS_eq h
    clear h
    cases h1
    refine ⟨updL rfl, ?_⟩
    intro hp
    rw [v76_vc]
    refine cnd_iff.2 ⟨fun h1 => ?_, fun h1 => cnd_iff.2 ⟨fun _ => ?_, fun h2 => absurd (bne_eq_false_iff_eq.1 h2) (of_decide_eq_false h1)⟩⟩
    · have e := of_decide_eq_true h1
      have hi : n.toNat < cars.length := by have := okC_iff (aimE_ok e).1; omega
      have e2 : giveL c cars n = modC cars n (setGive c (atC cars n)) := if_pos e
      rw [mm_clamp (show (1 : Int) ≤ 1000 by decide)]
      have ec : putAt .car (putAt .car (putAt .car (putAt .car (putAt .car cars n.toNat 9 [PC.int .i64 0]) n.toNat 10 [PC.int .i64 0]) n.toNat 11 [PC.bool false]) n.toNat 5 [PC.int .i64 (-1)]) n.toNat 4 [PC.int .i64 (clampI 1 1000 c.dwell)] = cars.set n.toNat ({ atC cars n with mode := 0, target := 0, hold := false, just := -1, timer := spanI c.dwell } : Lw.Car) := by
        rw [show putAt .car cars n.toNat 9 [PC.int .i64 0] = cars.set n.toNat ({ atC cars n with mode := 0 } : Lw.Car) from rfl, putAt_set (t := .car) hi, putAt_set (t := .car) hi, putAt_set (t := .car) hi]
        exact putAt_set (t := .car) hi
      rw [ec]
      rw [show (cars.set n.toNat ({ atC cars n with mode := 0, target := 0, hold := false, just := -1, timer := spanI c.dwell } : Lw.Car)).getD n.toNat (RTy.zero .car) = ({ atC cars n with mode := 0, target := 0, hold := false, just := -1, timer := spanI c.dwell } : Lw.Car) by rw [List.getD_eq_getElem?_getD, List.getElem?_set_self hi]; rfl]
      refine cnd_iff.2 ⟨fun h2 => ?_, fun h2 => ?_⟩
      · have e3 : setGive c (atC cars n) = ({ atC cars n with mode := 0, target := 0, hold := false, just := -1, timer := spanI c.dwell, way := 0 } : Lw.Car) := by unfold setGive; rw [if_pos h2]
        rw [show putAt .car (cars.set n.toNat ({ atC cars n with mode := 0, target := 0, hold := false, just := -1, timer := spanI c.dwell } : Lw.Car)) n.toNat 3 [PC.int .i64 0] = modC cars n (setGive c (atC cars n)) by rw [e3]; exact putAt_set (t := .car) hi]
        simp only [BT.ev, e, e2]
        exact ends_sel [] [0, 1, 2] rfl rfl rfl rfl
      · have e3 : setGive c (atC cars n) = ({ atC cars n with mode := 0, target := 0, hold := false, just := -1, timer := spanI c.dwell } : Lw.Car) := by unfold setGive; rw [if_neg (by rw [show levelB (atC cars n).unit = false from h2]; decide)]
        rw [show cars.set n.toNat ({ atC cars n with mode := 0, target := 0, hold := false, just := -1, timer := spanI c.dwell } : Lw.Car) = modC cars n (setGive c (atC cars n)) by rw [e3]; rfl]
        simp only [BT.ev, e, e2]
        exact ends_sel [] [0, 1, 2] rfl rfl rfl rfl
    · have e2 : giveL c cars n = cars := if_neg (of_decide_eq_false h1)
      simp only [BT.ev, e2]
      exact ends_sel [] [0, 1, 2] rfl rfl rfl rfl
  · cases h
theorem tb126_ok : GamOk Tryz.prog eid (gam tb126) := gam_cons h76 tb125_ok
theorem h67 : Holds Tryz.prog eid 67 (assignGS) := by
  refine hold tb126_ok Tryz.func67 (by kernel_rfl) ?_ (by kernel_rfl)
  intro xs M t h
  unfold assignGS at h
  split at h
  case h_2 => cases h
  rename_i vs cars ws
  obtain ⟨c, now, rfl, h1⟩ := grpS_eq h
  clear h
  cases h1
  refine ⟨updL rfl, ?_⟩
  intro hp
  obtain ⟨hm, hl⟩ := (hp : mildL cars ∧ ws.length ≤ bigRow)
  have hbig : bigRow = 1073741824 := rfl
  have hmx := maxLen_eq
  rw [v67_vc]
  refine loopVC_sel (S := Int) v67b_m (fun i => v67b_fr c (assignN c cars ws i.toNat).1 (assignN c cars ws i.toNat).2 now ws.length i) (fun i => v67b_mem c (assignN c cars ws i.toNat).1 (assignN c cars ws i.toNat).2 now ws.length i) (fun i => (ws.length - i).toNat) (fun i => 0 ≤ i ∧ i ≤ ws.length) ⟨[], [0, 1, 2], 0, ⟨by simp, by simp⟩, _, rfl, rfl, rfl, rfl⟩ ?_
  rintro i ⟨h0, h1⟩
  refine (v67b_vc c _ _ now _ i _ _).mpr ?_
  rw [zeroW_eq]
  have ha := assign_mild c ws hm i.toNat
  by_cases hi : i < ws.length
  · have hi1 : (i + 1).toNat = i.toNat + 1 := by omega
    have hg := assign_get c cars ws i.toNat i.toNat (Nat.le_refl _)
    have hun : assignN c cars ws (i.toNat + 1) = _ := assignN.eq_2 c cars ws i.toNat
    rw [wrap_id (n := i + 1) (by omega) (by omega), hg, ha.2.2]
    have hb := best_range c (assignN c cars ws i.toNat).1 ⟨(ws.getD i.toNat zeroW).floor, (ws.getD i.toNat zeroW).way⟩
    refine cnd_iff.2 ⟨fun _ => ⟨⟨h0, hi⟩, cnd_iff.2 ⟨fun hc => ?_, fun hc => ⟨⟨by have := ha.1.1; omega, fun x hx => (ha.1.2 x hx).1⟩, cnd_iff.2 ⟨fun hz => ⟨⟨h0, hi⟩, ⟨of_decide_eq_true hz, hb.2⟩, ⟨of_decide_eq_true hz, hb.2⟩, ?_⟩, fun hz => ?_⟩⟩⟩⟩, fun h => absurd hi (of_decide_eq_false h)⟩
    · rw [if_pos (of_decide_eq_true hc)] at hun
      refine ⟨[], [0, 1, 2], i + 1, ⟨⟨by omega, by omega⟩, by omega⟩, _, rfl, rfl, rfl, ?_⟩
      dsimp only
      rw [hi1, hun]; rfl
    · rw [if_neg (of_decide_eq_false hc), if_pos (of_decide_eq_true hz)] at hun
      refine ⟨[], [0, 1, 2], i + 1, ⟨⟨by omega, by omega⟩, by omega⟩, _, rfl, rfl, rfl, ?_⟩
      dsimp only
      rw [hi1, hun]
      rw [show putAt .wait (assignN c cars ws i.toNat).2 i.toNat 2 [PC.int .i64 (bestI c (assignN c cars ws i.toNat).1 ⟨(ws.getD i.toNat zeroW).floor, (ws.getD i.toNat zeroW).way⟩)] = (assignN c cars ws i.toNat).2.set i.toNat ({ (assignN c cars ws i.toNat).2.getD i.toNat zeroW with car := bestI c (assignN c cars ws i.toNat).1 ⟨(ws.getD i.toNat zeroW).floor, (ws.getD i.toNat zeroW).way⟩ } : Lw.Wait) from rfl, hg]
      rfl
    · rw [if_neg (of_decide_eq_false hc), if_neg (of_decide_eq_false hz)] at hun
      refine ⟨[], [0, 1, 2], i + 1, ⟨⟨by omega, by omega⟩, by omega⟩, _, rfl, rfl, rfl, ?_⟩
      dsimp only
      rw [hi1, hun]; rfl
  · refine cnd_iff.2 ⟨fun h => absurd (of_decide_eq_true h) hi, fun _ => ?_⟩
    rw [show i.toNat = ws.length by omega]
    exact ends_sel [] [0, 1, 2] rfl rfl rfl rfl
theorem tb127_ok : GamOk Tryz.prog eid (gam tb127) := gam_cons h67 tb126_ok
theorem h23 : Holds Tryz.prog eid 23 (tickGS) := by
  refine hold tb127_ok Tryz.func23 (by kernel_rfl) ?_ (by kernel_rfl)
  intro xs M t h
  unfold tickGS at h
  split at h
  · cases h
    refine ⟨updN, ?_⟩
    intro hp
    rw [v23n_vc]
    exact ends_v rfl rfl
  · rename_i vs cars ws
    obtain ⟨c, now, rfl, h1⟩ := grpS_eq h
    clear h
    cases h1
    refine ⟨updL rfl, ?_⟩
    intro hp
    rw [v23_vc]
    obtain ⟨hm, hl⟩ := (hp : mildL cars ∧ ws.length ≤ bigRow)
    have hbig : bigRow = 1073741824 := rfl
    have hmx := maxLen_eq
    refine ⟨⟨hm, hl⟩, ?_⟩
    have ha := assign_mild c ws hm ws.length
    rw [show (assignN c cars ws ws.length) = assignG c cars ws from rfl] at ha
    have hend : tickL c cars ws = (assignG c cars ws).1.map (tickCar c) ∧ tickW c cars ws = (wavesN c (assignG c cars ws).1 (assignG c cars ws).2 (assignG c cars ws).1.length).1 ∧ tickO c cars ws = (wavesN c (assignG c cars ws).1 (assignG c cars ws).2 (assignG c cars ws).1.length).2 := ⟨rfl, rfl, rfl⟩
    rw [hend.1, hend.2.1, hend.2.2]
    clear hend
    generalize (assignG c cars ws).1 = A at ha ⊢
    generalize (assignG c cars ws).2 = W at ha ⊢
    have hw := waves_len c A W
    refine loopVC_selD (S := Int) v23b_m (fun i => v23b_fr c (mixN (tickCar c) A i.toNat) (wavesN c A W i.toNat).1 (addT now 1) (wavesN c A W i.toNat).2 A.length i) (fun i => v23b_mem c (mixN (tickCar c) A i.toNat) (wavesN c A W i.toNat).1 (addT now 1) (wavesN c A W i.toNat).2 A.length i) (fun i => (A.length - i).toNat) (fun i => 0 ≤ i ∧ i ≤ A.length) ⟨[.blk 3 0 .wait], [some 0, some 1, none, some 3, some 2, some 4], 0, ⟨by simp, by simp⟩, _, rfl, rfl, rfl, by dsimp only; rw [show (0 : Int).toNat = 0 from rfl, mix_zero]; rfl⟩ ?_
    rintro i ⟨h0, h1⟩
    refine (v23b_vc c _ _ (addT now 1) _ _ i _ _).mpr ?_
    rw [zeroC_eq]
    have hwi := hw i.toNat
    by_cases hi : i < A.length
    · have hi1 : (i + 1).toNat = i.toNat + 1 := by omega
      have hun : wavesN c A W (i.toNat + 1) = _ := wavesN.eq_2 c A W i.toNat
      have hmi := ha.1.2 _ (atC_mem h0 hi)
      have hg := mix_get (f := tickCar c) (xs := A) (i := i.toNat) (by omega) zeroC
      have hs := mix_set (f := tickCar c) (xs := A) (i := i.toNat) (by omega) zeroC
      have hlen := ha.1.1
      rw [wrap_id (n := i + 1) (by omega) (by omega), hg, mix_len]
      have ep : ∀ y : Lw.Car, putAt .car (mixN (tickCar c) A i.toNat) i.toNat 0 y.enc = (mixN (tickCar c) A i.toNat).set i.toNat y := fun y => rfl
      have ep := (ep (tickCar c (A.getD i.toNat zeroC))).trans hs
      refine cnd_iff.2 ⟨fun _ => ⟨⟨h0, hi⟩, hmi, ⟨h0, hi⟩, cnd_iff.2 ⟨fun hc => ?_, fun hc => ⟨by omega, ?_⟩⟩⟩, fun h => absurd hi (of_decide_eq_false h)⟩
      · rw [if_neg (by rw [Bool.not_eq_true'] at hc; rw [hc]; decide)] at hun
        refine ⟨[], [some 0, some 1, none, some 3, some 4, some 5], i + 1, ⟨⟨by omega, by omega⟩, by omega⟩, _, rfl, rfl, rfl, ?_⟩
        dsimp only
        rw [hi1, hun, ← ep]; rfl
      · rw [if_pos (by rw [Bool.not_eq_false'] at hc; exact hc)] at hun
        refine ⟨[], [some 0, some 1, none, some 3, some 8, some 9], i + 1, ⟨⟨by omega, by omega⟩, by omega⟩, _, rfl, rfl, rfl, ?_⟩
        dsimp only
        rw [hi1, hun, ← ep]; rfl
    · refine cnd_iff.2 ⟨fun h => absurd (of_decide_eq_true h) hi, fun _ => ?_⟩
      rw [show i.toNat = A.length by omega, mix_end]
      exact ends_selD [] [some 0, some 1, none, some 4, some 5] rfl rfl rfl rfl
  · cases h
theorem tb128_ok : GamOk Tryz.prog eid (gam tb128) := gam_cons h23 tb127_ok
theorem h42 : Holds Tryz.prog eid 42 (carsGS) := by
  refine hold tb128_ok Tryz.func42 (by kernel_rfl) ?_ (by kernel_rfl)
  intro xs M t h
  unfold carsGS at h
  split at h
  · cases h
    refine ⟨updN, ?_⟩
    intro hp
    rw [v42n_vc]
    exact ends_v rfl rfl
  · rename_i vs cars ws
    obtain ⟨c, now, rfl, h1⟩ := grpS_eq h
    clear h
    cases h1
    refine ⟨updN, ?_⟩
    intro hp
    rw [v42_vc]
    exact ⟨hp, ends_sel [] [0, 1, 2, 3] rfl rfl rfl rfl⟩
  · cases h
theorem tb129_ok : GamOk Tryz.prog eid (gam tb129) := gam_cons h42 tb128_ok
theorem h73 : Holds Tryz.prog eid 73 (waitsGS) := by
  refine hold tb129_ok Tryz.func73 (by kernel_rfl) ?_ (by kernel_rfl)
  intro xs M t h
  unfold waitsGS at h
  split at h
  · cases h
    refine ⟨updN, ?_⟩
    intro hp
    rw [v73n_vc]
    exact ends_v rfl rfl
  · rename_i vs cars ws
    obtain ⟨c, now, rfl, h1⟩ := grpS_eq h
    clear h
    cases h1
    refine ⟨updN, ?_⟩
    intro hp
    rw [v73_vc]
    exact ⟨hp, ends_sel [] [0, 1, 2, 3] rfl rfl rfl rfl⟩
  · cases h
theorem tb130_ok : GamOk Tryz.prog eid (gam tb130) := gam_cons h73 tb129_ok
theorem h45 : Holds Tryz.prog eid 45 (nowGS) := by
  refine hold tb130_ok Tryz.func45 (by kernel_rfl) ?_ (by kernel_rfl)
  intro xs M t h
  unfold nowGS at h
  split at h
  · cases h
    refine ⟨updN, ?_⟩
    intro hp
    rw [v45n_vc]
    exact ends_pl rfl
  · rename_i vs cars ws
    obtain ⟨c, now, rfl, h1⟩ := grpS_eq h
    clear h
    cases h1
    refine ⟨updN, ?_⟩
    intro hp
    rw [v45_vc]
    exact ends_sel [] [0, 1, 2] rfl rfl rfl rfl
  · cases h
theorem tb131_ok : GamOk Tryz.prog eid (gam tb131) := gam_cons h45 tb130_ok
end Go.Proofs.YtjgmkpidiaojkaaGreat
