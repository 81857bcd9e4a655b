/- The functions of this group answer so. -/
import Derived.Test.YtjgmkpidiaojkaaGreatFwCorMV
import Derived.Test.YtjgmkpidiaojkaaGreatFwCorL
set_option linter.unusedVariables false
set_option linter.unusedSimpArgs false
set_option maxRecDepth 20000
set_option maxHeartbeats 4000000
namespace Go.Proofs.YtjgmkpidiaojkaaGreat
open Lw
attribute [local irreducible] Lw.vc Lw.vcFunc
theorem atC_mod {cars : List Lw.Car} {n m : Int} {x : Lw.Car} (hn : 0 ≤ n ∧ n < cars.length) (hm : 0 ≤ m) : atC (modC cars n x) m = if m = n then x else atC cars m := by
  unfold atC modC
  rw [List.getD_eq_getElem?_getD, List.getElem?_set]
  by_cases h : m = n
  · subst h; rw [if_pos rfl, if_pos (by omega), if_pos rfl]; rfl
  · rw [if_neg (by omega), if_neg h, ← List.getD_eq_getElem?_getD]
theorem idx_mid {α : Type} {p : α → Bool} {x : α} (D : List α) (hx : p x = true) : ∀ (P : List α) (i : Int), (∀ y ∈ P, p y = false) → idxG p (P ++ x :: D) i = i + P.length
  | [], i, _ => by
    show (bif p x then i else _) = _
    rw [hx]; simp
  | y :: r, i, h => by
    show (bif p y then i else idxG p (r ++ x :: D) (i + 1)) = _
    rw [h y (List.mem_cons_self ..), cond_false, idx_mid D hx r (i + 1) (fun z hz => h z (List.mem_cons_of_mem _ hz))]
    simp only [List.length_cons]; omega
theorem end_mid {P D : List Lw.Lease} {l : Lw.Lease} {n : Int} (hl : l.ask.session = n) (h : ∀ y ∈ P, y.ask.session ≠ n) : endLs (P ++ l :: D) n = P ++ D := by
  have e := idx_mid (p := sesP n) (x := l) D (by unfold sesP; rw [hl, beq_self_eq_true]) P 0 (fun y hy => by unfold sesP; exact beq_eq_false_iff_ne.2 (h y hy))
  unfold endLs
  rw [e, if_neg (by omega)]
  unfold cutL
  rw [show ((0 : Int) + (P.length : Int)).toNat = P.length by omega, show ((0 : Int) + (P.length : Int) + 1).toNat = P.length + 1 by omega]
  simp
theorem get_mid {P D : List Lw.Lease} {l : Lw.Lease} {n : Int} (hl : l.ask.session = n) (h : ∀ y ∈ P, y.ask.session ≠ n) : getB (sesP n) (P ++ l :: D) = true ∧ getL (sesP n) (P ++ l :: D) = l := by
  have e := idx_mid (p := sesP n) (x := l) D (by unfold sesP; rw [hl, beq_self_eq_true]) P 0 (fun y hy => by unfold sesP; exact beq_eq_false_iff_ne.2 (h y hy))
  unfold getB getL
  rw [e, if_neg (by omega), show ((0 : Int) + (P.length : Int)).toNat = P.length by omega]
  refine ⟨by simp, by simp⟩
theorem set_mid {c : Config} {P D : List Lw.Lease} {l x : Lw.Lease} (hg : goodL c x = true) (ha : x.ask = l.ask) (hc : x.car = l.car) (h : ∀ y ∈ P, y.ask.session ≠ l.ask.session) : setLs c (P ++ l :: D) x = P ++ x :: D := by
  have e := idx_mid (p := setP x) (x := l) D (by unfold setP; rw [ha, hc]; simp) P 0 (fun y hy => by
    unfold setP
    rw [show (y.ask.session == x.ask.session) = false from beq_eq_false_iff_ne.2 (by rw [ha]; exact h y hy)]; rfl)
  have e0 : setE c (P ++ l :: D) x = 0 := by
    unfold setE
    rw [hg, if_neg (by decide), e, if_neg (by omega)]
  unfold setLs
  rw [if_pos e0, e, show ((0 : Int) + (P.length : Int)).toNat = P.length by omega]
  simp
theorem mayA_iff {c : Config} {a : Lw.Ask} (h : mayA c a = true) : (0 ≤ a.session ∧ a.session < 64) ∧ (0 ≤ a.src ∧ a.src < floorsI c.floors) ∧ (0 ≤ a.dst ∧ a.dst < floorsI c.floors) := by
  unfold mayA inB at h
  simp only [Bool.and_eq_true, decide_eq_true_eq] at h
  have := clampI_range (show (1 : Int) ≤ 64 by decide) c.sessions
  exact ⟨⟨by omega, by omega⟩, ⟨by omega, by omega⟩, by omega, by omega⟩
theorem goodL_ask {c : Config} {l : Lw.Lease} (h : goodL c l = true) : mayA c l.ask = true ∧ (1 ≤ l.phase ∧ l.phase ≤ 4) ∧ 0 ≤ l.car ∧ l.car < 8 := by
  unfold goodL at h
  simp only [Bool.and_eq_true, decide_eq_true_eq] at h
  exact ⟨h.1, ⟨by omega, by omega⟩, by omega, by omega⟩
theorem goodL_of {c : Config} {l : Lw.Lease} (h : mayA c l.ask = true) (hp : 1 ≤ l.phase ∧ l.phase ≤ 4) (hc : 0 ≤ l.car ∧ l.car < 8) : goodL c l = true := by
  unfold goodL
  simp only [Bool.and_eq_true, decide_eq_true_eq]
  exact ⟨h, by omega, by omega, by omega, by omega⟩
theorem rideT_good {c : Config} {b : Bool} {l : Lw.Lease} {x : Lw.Car} {now : Int} (h : goodL c l = true) : goodL c (rideT b c l x now).1 = true := by
  obtain ⟨h1, h2, h3⟩ := goodL_ask h
  have hs := rideT_same b c l x now
  refine goodL_of (by rw [hs.1]; exact h1) ?_ (by rw [hs.2.1]; exact h3)
  unfold rideT
  (repeat' split) <;> simp only <;> omega
theorem rideH_good {c : Config} {l : Lw.Lease} {x : Lw.Car} {now : Int} {m : Lw.Msg} (h : goodL c l = true) : goodL c (rideH c l x now m).1 = true := by
  obtain ⟨h1, h2, h3⟩ := goodL_ask h
  have hs := rideH_same c l x now m
  refine goodL_of (by rw [hs.1]; exact h1) ?_ (by rw [hs.2.1]; exact h3)
  unfold rideH
  (repeat' split) <;> simp only <;> omega
theorem aim_ok {c : Config} {cars : List Lw.Car} {l : Lw.Lease} (hg : goodL c l = true) (hl : l.car < cars.length) (hm : (atC cars l.car).mode = 1) : aimE c cars l.car (aimI l) = 0 ∧ aimE c cars l.car 0 = 0 := by
  obtain ⟨h1, h2, h3⟩ := goodL_ask hg
  have hf := mayA_iff h1
  have hr := floorsI_range c.floors
  have ha : floorB c (aimI l) = true := by
    unfold floorB aimI
    simp only [Bool.and_eq_true, decide_eq_true_eq]
    split <;> omega
  have h0 : floorB c 0 = true := by
    unfold floorB
    simp only [Bool.and_eq_true, decide_eq_true_eq]
    omega
  unfold aimE okC
  rw [ha, h0, decide_eq_true h3.1, decide_eq_true hl]
  simp [hm]
def LeaseOk (s : Lw.Cor) : Prop := InvL s.c s.ls ∧ ∀ l ∈ s.ls, goodL s.c l = true ∧ l.car < s.cars.length ∧ (atC s.cars l.car).mode = 1
/-- What a round does to a lease whose car is as it was. -/
theorem after_mid {t : Lw.Cor} {P D : List Lw.Lease} {l x : Lw.Lease} {ms : List Lw.Msg} {v : Bool} (hls : t.ls = P ++ l :: D) (ha : x.ask = l.ask) (hcr : x.car = l.car) (hg : goodL t.c x = true) (h : ∀ y ∈ P, y.ask.session ≠ l.ask.session) (hc : l.car < t.cars.length) (hm : (atC t.cars l.car).mode = 1) :
    (afterK t x ms v).ls = P ++ (if v = true then [] else [x]) ++ D ∧ (afterK t x ms v).cars = modC t.cars l.car (if v = true then setGive t.c (atC t.cars l.car) else setAim (atC t.cars l.car) (aimI x) true) := by
  have ho := aim_ok (cars := t.cars) (l := x) hg (by rw [hcr]; exact hc) (by rw [hcr]; exact hm)
  rw [hcr] at ho
  cases v with
  | true =>
    have hg2 := get_mid (D := D) (show l.ask.session = x.ask.session by rw [ha]) (show ∀ y ∈ P, y.ask.session ≠ x.ask.session by rw [ha]; exact h)
    unfold afterK
    rw [if_pos rfl, if_pos rfl, if_pos rfl]
    refine ⟨?_, ?_⟩
    · show endLs t.ls x.ask.session = _
      rw [hls, end_mid (by rw [ha]) (by rw [ha]; exact h), List.append_nil]
    · show (if getB (sesP x.ask.session) t.ls = true then giveL t.c t.cars (getL (sesP x.ask.session) t.ls).car else t.cars) = _
      rw [hls, if_pos hg2.1, hg2.2]
      unfold giveL
      rw [if_pos ho.2]
  | false =>
    unfold afterK
    rw [if_neg (by decide), if_neg (by decide), if_neg (by decide)]
    refine ⟨?_, ?_⟩
    · show setLs t.c t.ls x = _
      rw [hls, set_mid hg ha hcr h]; simp
    · show aimL t.c t.cars x.car (aimI x) true = _
      rw [hcr]
      unfold aimL
      rw [if_pos ho.1]
theorem take_get {α : Type} {l : List α} {i : Nat} (h : i < l.length) (z : α) : l.take (i + 1) = l.take i ++ [l.getD i z] := by
  rw [List.take_add_one, List.getElem?_eq_getElem h, List.getD_eq_getElem?_getD, List.getElem?_eq_getElem h]; rfl
theorem drop_get {α : Type} {l : List α} {i : Nat} (h : i < l.length) (z : α) : l.drop i = l.getD i z :: l.drop (i + 1) := by
  rw [List.drop_eq_getElem_cons h, List.getD_eq_getElem?_getD, List.getElem?_eq_getElem h]; rfl
/-- All leases ride at once. -/
theorem rides_shape {s : Lw.Cor} (h : LeaseOk s) : ∀ i : Nat, i ≤ s.ls.length → (ridesK s (s.ls.take i)).ls = filtR s (s.ls.take i) ++ s.ls.drop i
    ∧ (∀ n : Int, 0 ≤ n → (∀ l ∈ s.ls.take i, l.car ≠ n) → atC (ridesK s (s.ls.take i)).cars n = atC s.cars n)
    ∧ ∀ l ∈ s.ls.take i, atC (ridesK s (s.ls.take i)).cars l.car = if (rideK s l).2.2 = true then setGive s.c (atC s.cars l.car) else setAim (atC s.cars l.car) (aimI (rideK s l).1) true
  | 0, _ => ⟨by simp [filtR, ridesK], fun n _ _ => rfl, fun l hl => by simp at hl⟩
  | i + 1, hi => by
    obtain ⟨h1, h2, h3⟩ := rides_shape h i (by omega)
    have hk := (rides_keep (s.ls.take i) s).1
    rw [rides_take s (show i < s.ls.length by omega) zeroL]
    have hmem : s.ls.getD i zeroL ∈ s.ls := getD_mem (by omega) _
    have hget : s.ls[i]? = some (s.ls.getD i zeroL) := by rw [List.getD_eq_getElem?_getD, List.getElem?_eq_getElem (show i < s.ls.length by omega)]; rfl
    have htk := take_get (show i < s.ls.length by omega) zeroL
    rw [drop_get (show i < s.ls.length by omega) zeroL] at h1
    generalize ridesK s (s.ls.take i) = t at *
    generalize s.ls.getD i zeroL = l at *
    obtain ⟨k1, k2, k3, k4, k5, k6, k7, k8⟩ := hk
    obtain ⟨g1, g2, g3⟩ := h.2 l hmem
    have g0 := (goodL_ask g1).2.2.1
    have hold : ∀ y ∈ s.ls.take i, y.ask.session ≠ l.ask.session ∧ y.car ≠ l.car := fun y hy => by
      obtain ⟨j, hj⟩ := List.getElem?_of_mem hy
      rw [List.getElem?_take] at hj
      split at hj
      · rename_i hji
        exact ⟨fun e => by have := nodup_inj (f := fun x : Lw.Lease => x.ask.session) h.1.1 hj hget e; omega, fun e => by have := nodup_inj (f := fun x : Lw.Lease => x.car) h.1.2.1 hj hget e; omega⟩
      · cases hj
    have hcar : atC t.cars l.car = atC s.cars l.car := h2 l.car g0 (fun y hy => (hold y hy).2)
    have hr : rideK t l = rideK s l := by unfold rideK; rw [hcar, k1, k2]
    have hsm := rideT_same (lateB s.now l.until_) s.c l (atC s.cars l.car) s.now
    have hP : ∀ y ∈ filtR s (s.ls.take i), y.ask.session ≠ l.ask.session := fun y hy => by
      unfold filtR at hy
      obtain ⟨z, hz, rfl⟩ := List.mem_map.1 hy
      have := (hold z ((List.mem_filter.1 hz).1)).1
      rw [show (rideK s z).1.ask = z.ask from (rideT_same _ _ _ _ _).1]
      exact this
    have ham := after_mid (t := t) (x := (rideK s l).1) (ms := (rideK s l).2.1) (v := (rideK s l).2.2) h1 hsm.1 hsm.2.1 (by rw [k1]; exact rideT_good g1) hP (by rw [k7]; exact g2) (by rw [hcar]; exact g3)
    have hrk : roundK t l = afterK t (rideK s l).1 (rideK s l).2.1 (rideK s l).2.2 := by unfold roundK; rw [hr]
    rw [hrk, htk]
    rw [hcar, k1] at ham
    refine ⟨?_, ?_, ?_⟩
    · rw [ham.1]
      unfold filtR
      rw [List.filter_append, List.map_append]
      congr 1
      cases hv : (rideK s l).2.2 <;> simp [hv]
    · intro n hn hne
      rw [ham.2, atC_mod ⟨g0, by rw [k7]; exact g2⟩ hn, if_neg (fun e => hne l (by simp) e.symm)]
      exact h2 n hn (fun y hy => hne y (by simp [hy]))
    · intro y hy
      rcases List.mem_append.1 hy with hy | hy
      · have := (goodL_ask (h.2 y ((List.take_sublist _ _).subset hy)).1).2.2.1
        rw [ham.2, atC_mod ⟨g0, by rw [k7]; exact g2⟩ this, if_neg (hold y hy).2]
        exact h3 y hy
      · rw [List.mem_singleton] at hy
        subst hy
        rw [ham.2, atC_mod ⟨g0, by rw [k7]; exact g2⟩ g0, if_pos rfl]
theorem tick_hold {c : Config} {x : Lw.Car} (hm : x.mode = 1) (hh : x.hold = true) (ht : thereB x = true) (hd : x.door.state = 2) : (tickCar c x).unit = x.unit ∧ (tickCar c x).door.state = 2 := by
  have key : ∀ m : Lw.Cmd, m.open_ = false → m.close = false → (stepC c x m).unit = x.unit ∧ (stepC c x m).door.state = 2 := fun m h1 h2 => by
    have e : toldD x m = x.door := by unfold toldD; rw [h1, h2]; simp
    have e2 : tickD x.door c.door x.blocked = x.door := by unfold tickD; simp [hd]
    unfold stepC
    rw [e, e2, if_neg (by rintro ⟨_, h, _⟩; omega)]
    exact ⟨rfl, hd⟩
  unfold tickCar ctlT
  by_cases hb : x.broken = true
  · rw [if_pos hb]
    exact key _ rfl rfl
  · rw [if_neg hb, if_pos hm]
    have e : leasedT (ctl0 x) = cmdK (ctl0 x) ⟨0, x.door.state == 3, false⟩ := by
      unfold leasedT
      rw [if_neg (by rintro ⟨h, _⟩; have h : x.door.state = 0 := h; omega), if_neg (by intro h; have h : x.door.state = 0 := h; omega), if_pos ⟨ht, hh⟩]; rfl
    rw [e]
    exact key _ (by show (x.door.state == 3) = false; rw [hd]; rfl) rfl
def SameC (x y : Lw.Car) : Prop := y.mode = x.mode ∧ y.target = x.target ∧ y.hold = x.hold ∧ y.door = x.door ∧ y.unit = x.unit
def SamP (cars cars' : List Lw.Car) : Prop := cars'.length = cars.length ∧ ∀ n : Int, 0 ≤ n → SameC (atC cars n) (atC cars' n)
theorem sameC_refl (x : Lw.Car) : SameC x x := ⟨rfl, rfl, rfl, rfl, rfl⟩
theorem samP_refl (cars : List Lw.Car) : SamP cars cars := ⟨rfl, fun _ _ => sameC_refl _⟩
theorem samP_mod {cars : List Lw.Car} {n : Int} {x : Lw.Car} (hn : 0 ≤ n ∧ n < cars.length) (h : SameC (atC cars n) x) : SamP cars (modC cars n x) := by
  refine ⟨modC_len _ _ _, fun m hm => ?_⟩
  rw [atC_mod hn hm]
  split
  · rename_i e; rw [e]; exact h
  · exact sameC_refl _
theorem samP_press (c : Config) (cars : List Lw.Car) (n f : Int) : SamP cars (pressL c cars n f) := by
  unfold pressL
  split
  · rename_i e
    have ho : okC c cars n f = true := by
      unfold pressE at e
      cases ho : okC c cars n f
      · rw [ho, if_pos rfl] at e; omega
      · rfl
    exact samP_mod ⟨(okC_iff ho).1, (okC_iff ho).2.1⟩ ⟨rfl, rfl, rfl, rfl, rfl⟩
  · exact samP_refl _
theorem samP_load (c : Config) (cars : List Lw.Car) (n f : Int) : SamP cars (loadL c cars n f) := by
  unfold loadL
  split
  · rename_i ho; exact samP_mod ⟨(okC_iff ho).1, (okC_iff ho).2.1⟩ ⟨rfl, rfl, rfl, rfl, rfl⟩
  · exact samP_refl _
theorem samP_curt (c : Config) (cars : List Lw.Car) (n : Int) (b : Bool) : SamP cars (curtL c cars n b) := by
  unfold curtL
  split
  · rename_i ho; exact samP_mod ⟨(okC_iff ho).1, (okC_iff ho).2.1⟩ ⟨rfl, rfl, rfl, rfl, rfl⟩
  · exact samP_refl _
theorem samP_fault (c : Config) (cars : List Lw.Car) (n : Int) (b : Bool) : SamP cars (faultL c cars n b) := by
  unfold faultL
  split
  · rename_i ho; exact samP_mod ⟨(okC_iff ho).1, (okC_iff ho).2.1⟩ ⟨rfl, rfl, rfl, rfl, rfl⟩
  · exact samP_refl _
def LOk (x : Lw.Car) (l : Lw.Lease) : Prop := x.mode = 1 ∧ x.target = aimI l ∧ x.hold = true ∧ (l.phase = 2 ∨ l.phase = 4 → thereB x = true ∧ x.door.state = 2)
theorem lok_same {x y : Lw.Car} {l : Lw.Lease} (h : SameC x y) (k : LOk x l) : LOk y l := by
  obtain ⟨h1, h2, h3, h4, h5⟩ := h
  obtain ⟨k1, k2, k3, k4⟩ := k
  refine ⟨h1.trans k1, h2.trans k2, h3.trans k3, fun hp => ?_⟩
  have := k4 hp
  unfold thereB at *
  rw [h5, h2, h4]
  exact this
def KInv (s : Lw.Cor) : Prop := CInv s ∧ (∀ l ∈ s.ls, goodL s.c l = true ∧ l.car < s.cars.length ∧ LOk (atC s.cars l.car) l) ∧ (∀ a ∈ s.qs, mayA s.c a = true ∧ ∀ l ∈ s.ls, l.ask.session ≠ a.session)
  ∧ (∀ n : Int, 0 ≤ n → n < s.cars.length → (atC s.cars n).mode = 1 → ∃ l ∈ s.ls, l.car = n) ∧ ∃ n : Int, 0 ≤ n ∧ n < s.cars.length ∧ (atC s.cars n).mode = 0
theorem kinv_ok {s : Lw.Cor} (h : KInv s) : LeaseOk s := ⟨h.1.1, fun l hl => ⟨(h.2.1 l hl).1, (h.2.1 l hl).2.1, (h.2.1 l hl).2.2.1⟩⟩
theorem kinv_cars {s : Lw.Cor} {cars : List Lw.Car} {ws : List Lw.Wait} (h : KInv s) (k : SamP s.cars cars) : KInv (setCW s cars ws) := by
  obtain ⟨h1, h2, h3, h4, n0, h5, h6, h7⟩ := h
  obtain ⟨k1, k2⟩ := k
  refine ⟨h1, fun l hl => ⟨(h2 l hl).1, by show l.car < (cars.length : Int); rw [k1]; exact (h2 l hl).2.1, lok_same (k2 l.car (goodL_ask (h2 l hl).1).2.2.1) (h2 l hl).2.2⟩, h3, fun n hn hl hm => ?_, n0, h5, by show n0 < (cars.length : Int); rw [k1]; exact h6, by show (atC cars n0).mode = 0; rw [(k2 n0 h5).1]; exact h7⟩
  have hl : n < (cars.length : Int) := hl
  have hm : (atC cars n).mode = 1 := hm
  exact h4 n hn (by rw [← k1]; exact hl) (by rw [← (k2 n hn).1]; exact hm)
theorem kinv_after {t : Lw.Cor} {l x : Lw.Lease} (ms : List Lw.Msg) (v : Bool) (h : KInv t) (hl : l ∈ t.ls) (ha : x.ask = l.ask) (hcr : x.car = l.car) (hg : goodL t.c x = true) (hx : v = false → LOk (setAim (atC t.cars l.car) (aimI x) true) x) : KInv (afterK t x ms v) := by
  have hci := cinv_after x ms v h.1
  obtain ⟨h1, h2, h3, h4, n0, h5, h6, h7⟩ := h
  obtain ⟨g1, g2, g3⟩ := h2 l hl
  have g0 := (goodL_ask g1).2.2.1
  obtain ⟨P, D, hPD⟩ := List.append_of_mem hl
  have hk := (after_keep t x ms v).1
  obtain ⟨k1, k2, k3, k4, k5, k6, k7, k8⟩ := hk
  have hns := h1.1.1
  have hnc := h1.1.2.1
  rw [hPD, List.map_append, List.map_cons, List.nodup_append] at hns hnc
  obtain ⟨_, ns2, ns3⟩ := hns
  obtain ⟨_, nc2, nc3⟩ := hnc
  rw [List.nodup_cons] at ns2 nc2
  have hPs : ∀ y ∈ P, y.ask.session ≠ l.ask.session := fun y hy => ns3 _ (List.mem_map_of_mem hy) _ (List.mem_cons_self ..)
  have hPc : ∀ y ∈ P, y.car ≠ l.car := fun y hy => nc3 _ (List.mem_map_of_mem hy) _ (List.mem_cons_self ..)
  have hDc : ∀ y ∈ D, y.car ≠ l.car := fun y hy e => nc2.1 (by rw [← e]; exact List.mem_map_of_mem hy)
  have ham := after_mid (ms := ms) (v := v) hPD ha hcr hg hPs g2 g3.1
  have hold : ∀ y ∈ (afterK t x ms v).ls, (y ∈ t.ls ∧ y.car ≠ l.car) ∨ (v = false ∧ y = x) := fun y hy => by
    rw [ham.1] at hy
    rcases List.mem_append.1 hy with hy | hy
    · rcases List.mem_append.1 hy with hy | hy
      · exact .inl ⟨by rw [hPD]; exact List.mem_append_left _ hy, hPc y hy⟩
      · cases v with
        | true => simp at hy
        | false => exact .inr ⟨rfl, by simpa using hy⟩
    · exact .inl ⟨by rw [hPD]; exact List.mem_append_right _ (List.mem_cons_of_mem _ hy), hDc y hy⟩
  have hat : ∀ m : Int, 0 ≤ m → atC (afterK t x ms v).cars m = if m = l.car then (if v = true then setGive t.c (atC t.cars l.car) else setAim (atC t.cars l.car) (aimI x) true) else atC t.cars m := fun m hm => by
    rw [ham.2, atC_mod ⟨g0, g2⟩ hm]
  refine ⟨hci, fun y hy => ?_, fun a haq => ?_, fun n hn hl2 hm => ?_, ?_⟩
  · rcases hold y hy with ⟨hy1, hy2⟩ | ⟨hv, rfl⟩
    · have := h2 y hy1
      exact ⟨by rw [k1]; exact this.1, by rw [k7]; exact this.2.1, by rw [hat _ (goodL_ask this.1).2.2.1, if_neg hy2]; exact this.2.2⟩
    · refine ⟨by rw [k1]; exact hg, by rw [k7, hcr]; exact g2, ?_⟩
      rw [hcr, hat _ g0, if_pos rfl, if_neg (by rw [hv]; decide)]
      exact hx hv
  · rw [k5] at haq
    refine ⟨by rw [k1]; exact (h3 a haq).1, fun y hy => ?_⟩
    rcases hold y hy with ⟨hy1, _⟩ | ⟨_, rfl⟩
    · exact (h3 a haq).2 y hy1
    · rw [ha]; exact (h3 a haq).2 l hl
  · rw [k7] at hl2
    rw [hat n hn] at hm
    split at hm
    · rename_i e
      cases hv : v with
      | true => rw [hv, if_pos rfl] at hm; exact absurd (show (0 : Int) = 1 from hm) (by decide)
      | false =>
        refine ⟨x, ?_, by rw [hcr, e]⟩
        rw [hv] at ham
        rw [ham.1]; simp
    · rename_i e
      obtain ⟨y, hy, hyc⟩ := h4 n hn hl2 hm
      refine ⟨y, ?_, hyc⟩
      rw [hPD] at hy
      rw [ham.1]
      rcases List.mem_append.1 hy with hy | hy
      · simp [hy]
      · rcases List.mem_cons.1 hy with rfl | hy
        · exact absurd hyc.symm e
        · simp [hy]
  · refine ⟨n0, h5, by rw [k7]; exact h6, ?_⟩
    rw [hat n0 h5, if_neg (fun e => by rw [e, g3.1] at h7; exact absurd h7 (by decide))]
    exact h7
theorem kinv_carsG {s : Lw.Cor} {cars : List Lw.Car} {ws : List Lw.Wait} (h : KInv s) (k1 : cars.length = s.cars.length) (k2 : ∀ n : Int, 0 ≤ n → n < s.cars.length → (atC cars n).mode = (atC s.cars n).mode) (k3 : ∀ l ∈ s.ls, LOk (atC cars l.car) l) : KInv (setCW s cars ws) := by
  obtain ⟨h1, h2, h3, h4, n0, h5, h6, h7⟩ := h
  refine ⟨h1, fun l hl => ⟨(h2 l hl).1, by show l.car < (cars.length : Int); rw [k1]; exact (h2 l hl).2.1, k3 l hl⟩, h3, fun n hn hl hm => ?_, n0, h5, by show n0 < (cars.length : Int); rw [k1]; exact h6, by show (atC cars n0).mode = 0; rw [k2 n0 h5 h6]; exact h7⟩
  have hl : n < (cars.length : Int) := hl
  have hm : (atC cars n).mode = 1 := hm
  rw [k1] at hl
  exact h4 n hn hl (by rw [← k2 n hn hl]; exact hm)
theorem kinv_new (c : Config) : KInv (newK c) := by
  have hz : ∀ n : Int, 0 ≤ n → n < (newK c).cars.length → (atC (newK c).cars n).mode = 0 := fun n h0 h1 => by
    have := List.eq_of_mem_replicate (atC_mem h0 h1)
    exact congrArg (fun x : Lw.Car => x.mode) this
  have hl := (gInv_len (gInv_new c)).1
  refine ⟨cinv_new c, fun l hl => absurd hl List.not_mem_nil, fun a ha => absurd ha List.not_mem_nil, fun n h0 h1 hm => ?_, 0, by omega, by have : (newK c).cars.length = (List.replicate (carsI c).toNat car0).length := rfl; omega, hz 0 (by omega) (by have : (newK c).cars.length = (List.replicate (carsI c).toNat car0).length := rfl; omega)⟩
  rw [hz n h0 h1] at hm
  exact absurd hm (by decide)
theorem getL_ses {n : Int} {ls : List Lw.Lease} (h : getB (sesP n) ls = true) : (getL (sesP n) ls).ask.session = n := by
  unfold getB at h
  have hn : ¬ idxG (sesP n) ls 0 < 0 := by simpa using h
  unfold getL
  rw [if_neg hn]
  rcases idxG_spec (p := sesP n) ls 0 with ⟨e, _⟩ | ⟨j, x, e, hx, hp⟩
  · omega
  · rw [e, show ((0 : Int) + (j : Int)).toNat = j by omega, List.getD_eq_getElem?_getD, hx]
    unfold sesP at hp
    exact beq_iff_eq.1 hp
theorem getB_none {n : Int} {ls : List Lw.Lease} (h : ¬ getB (sesP n) ls = true) : idxG (sesP n) ls 0 < 0 ∧ ∀ l ∈ ls, l.ask.session ≠ n := by
  unfold getB at h
  have hn : idxG (sesP n) ls 0 < 0 := by simpa using h
  refine ⟨hn, fun l hl => ?_⟩
  rcases idxG_spec (p := sesP n) ls 0 with ⟨_, k⟩ | ⟨j, x, e, hx, hp⟩
  · obtain ⟨j, hj⟩ := List.getElem?_of_mem hl
    have := k j l hj
    unfold sesP at this
    exact beq_eq_false_iff_ne.1 this
  · omega
theorem kinv_end {s : Lw.Cor} (n : Int) (h : KInv s) : KInv (endK s n) := by
  by_cases hb : getB (sesP n) s.ls = true
  · have hm := getL_mem hb
    have hk := kinv_after (x := getL (sesP n) s.ls) [] true h hm rfl rfl (h.2.1 _ hm).1 (fun e => by cases e)
    unfold afterK at hk
    rw [if_pos rfl, getL_ses hb] at hk
    exact hk
  · have e : endLs s.ls n = s.ls := by unfold endLs; rw [if_pos (getB_none hb).1]
    unfold endK
    rw [if_neg hb, e]
    exact h
theorem kinv_qs {s : Lw.Cor} {qs : List Lw.Ask} (h : KInv s) (hs : qs.Sublist s.qs) : KInv ⟨s.c, s.now, s.r, s.out, s.cars, s.ws, qs, s.ls⟩ :=
  ⟨⟨h.1.1, h.1.2.sublist (hs.map _)⟩, h.2.1, fun a ha => h.2.2.1 a (hs.subset ha), h.2.2.2⟩
theorem kinv_gone {s : Lw.Cor} (n : Int) (h : KInv s) : KInv (goneK s n) := kinv_qs (kinv_end n h) (qdrop_sub s.qs n)
theorem kinv_ask {s : Lw.Cor} (a : Lw.Ask) (h : KInv s) : KInv (askK s a) := by
  have hc := cinv_ask a h.1
  unfold askK at hc ⊢
  split
  · exact h
  · rename_i hm
    split
    · exact h
    · rename_i hb
      rw [if_neg hm, if_neg hb] at hc
      refine ⟨hc, h.2.1, fun b hbq => ?_, h.2.2.2⟩
      have hbq : b ∈ qputL s.r s.qs a := hbq
      unfold qputL at hbq
      split at hbq
      · rcases List.mem_append.1 hbq with hbq | hbq
        · exact h.2.2.1 b hbq
        · rw [List.mem_singleton] at hbq
          subst hbq
          exact ⟨(show mayA s.c b = true by simpa using hm), (getB_none hb).2⟩
      · exact h.2.2.1 b hbq
theorem lok_aim {x : Lw.Car} {l y : Lw.Lease} (h : LOk x l) (ha : y.ask = l.ask) (hp : y.phase = 2 ∨ y.phase = 4 → y.phase = l.phase) : LOk (setAim x (aimI y) true) y := by
  obtain ⟨k1, k2, k3, k4⟩ := h
  refine ⟨k1, rfl, rfl, fun h2 => ?_⟩
  have e := hp h2
  have ea : aimI y = x.target := by rw [k2]; unfold aimI; rw [e, ha]
  have := k4 (by rw [← e]; exact h2)
  refine ⟨?_, this.2⟩
  have h3 := this.1
  unfold thereB at h3 ⊢
  show (levelB x.unit && (levelF x.unit == aimI y)) = true
  rw [ea]; exact h3
theorem rideH_phase (c : Config) (l : Lw.Lease) (x : Lw.Car) (now : Int) (m : Lw.Msg) : (rideH c l x now m).1.phase = 2 ∨ (rideH c l x now m).1.phase = 4 → (rideH c l x now m).1.phase = l.phase := by
  unfold rideH
  (repeat' split) <;> simp
theorem kinv_hear {s : Lw.Cor} (n : Int) (m : Lw.Msg) (h : KInv s) : KInv (hearK s n m) := by
  unfold hearK
  split
  · rename_i hb
    have hm := getL_mem hb
    have hs := rideH_same s.c (getL (sesP n) s.ls) (atC s.cars (getL (sesP n) s.ls).car) s.now m
    refine kinv_after _ _ h hm hs.1 hs.2.1 (rideH_good (h.2.1 _ hm).1) (fun _ => ?_)
    exact lok_aim (h.2.1 _ hm).2.2 hs.1 (rideH_phase _ _ _ _ _)
  · exact h
theorem kinv_ob1 {s : Lw.Cor} (l : Lw.Lease) (h : KInv s) : KInv (ob1 s l).1 := by
  unfold ob1
  split
  · exact kinv_hear (s := loadK s l.car l.ask.mass) _ _ (kinv_cars (ws := s.ws) h (samP_load _ _ _ _))
  · split
    · exact kinv_hear (s := loadK s l.car 0) _ _ (kinv_cars (ws := s.ws) h (samP_load _ _ _ _))
    · exact h
theorem kinv_obF : ∀ (l : List Lw.Lease) (p : Lw.Cor × List Lw.Event), KInv p.1 → KInv (l.foldl obF p).1
  | [], p, h => h
  | x :: r, p, h => kinv_obF r (obF p x) (kinv_ob1 x h)
theorem kinv_do {s : Lw.Cor} (o : Lw.COp) (h : KInv s) : KInv (doK s o).1 := by
  unfold doK
  split
  · exact kinv_ask _ h
  split
  · exact kinv_hear _ _ h
  split
  · exact kinv_gone _ h
  split
  · exact kinv_cars h (samP_refl _)
  split
  · exact kinv_cars (ws := s.ws) h (samP_press _ _ _ _)
  split
  · exact kinv_cars (ws := s.ws) h (samP_load _ _ _ _)
  split
  · exact kinv_cars (ws := s.ws) h (samP_curt _ _ _ _)
  split
  · exact kinv_cars h (samP_fault _ _ _ _)
  split
  · exact kinv_obF s.ls (s, []) h
  · exact h
theorem tick_car {c : Config} {cars : List Lw.Car} (ws : List Lw.Wait) (hm : mildL cars) {n : Int} (h0 : 0 ≤ n) (h1 : n < cars.length) : ∃ st, atC (tickL c cars ws) n = tickCar c (setStops (atC cars n) st) := by
  obtain ⟨st, hs⟩ := assign_same c cars ws n ws.length
  have hl := (assign_mild c ws hm ws.length).2.1
  refine ⟨st, ?_⟩
  rw [tick_at c cars ws (by rw [show (assignG c cars ws).1 = (assignN c cars ws ws.length).1 from rfl, hl]; omega), show (assignG c cars ws).1 = (assignN c cars ws ws.length).1 from rfl, hs]
theorem kinv_step {s : Lw.Cor} (hm : mildL s.cars) (h : KInv s) : KInv (stepK s) := by
  have hl := (assign_mild s.c s.ws hm s.ws.length).2.1
  refine kinv_carsG (s := s) (ws := tickW s.c s.cars s.ws) h (show (tickL s.c s.cars s.ws).length = s.cars.length by unfold tickL; rw [List.length_map]; exact hl) (fun n h0 h1 => ?_) (fun l hll => ?_)
  · obtain ⟨st, e⟩ := tick_car (c := s.c) s.ws hm h0 h1
    rw [e, (tick_same _ _).1]; rfl
  · have k := h.2.1 l hll
    obtain ⟨st, e⟩ := tick_car (c := s.c) s.ws hm (goodL_ask k.1).2.2.1 k.2.1
    obtain ⟨k1, k2, k3, k4⟩ := k.2.2
    have ht := tick_same s.c (setStops (atC s.cars l.car) st)
    rw [e]
    refine ⟨ht.1.trans k1, ht.2.1.trans k2, ht.2.2.2.2.trans k3, fun hp => ?_⟩
    have h4 := k4 hp
    have hh := tick_hold (c := s.c) (x := setStops (atC s.cars l.car) st) k1 k3 h4.1 h4.2
    refine ⟨?_, hh.2⟩
    unfold thereB
    rw [hh.1, ht.2.1]
    exact h4.1
theorem rideT_lok {b : Bool} {c : Config} {l : Lw.Lease} {x : Lw.Car} {now : Int} (h : LOk x l) : LOk (setAim x (aimI (rideT b c l x now).1) true) (rideT b c l x now).1 := by
  have hop : ∀ f, openAt x f = true → levelB x.unit = true ∧ levelF x.unit = f ∧ x.door.state = 2 := fun f hf => by
    unfold openAt at hf
    simp only [Bool.and_eq_true, beq_iff_eq] at hf
    exact ⟨hf.1, hf.2.1, hf.2.2⟩
  unfold rideT
  split
  · exact lok_aim h rfl (fun _ => rfl)
  · split
    · rename_i h1
      obtain ⟨o1, o2, o3⟩ := hop _ h1.2
      refine ⟨h.1, rfl, rfl, fun _ => ⟨?_, o3⟩⟩
      show (levelB x.unit && (levelF x.unit == _)) = true
      rw [o1, o2]; simp [aimI, setAim]
    · split
      · rename_i h1
        obtain ⟨o1, o2, o3⟩ := hop _ h1.2
        refine ⟨h.1, rfl, rfl, fun _ => ⟨?_, o3⟩⟩
        show (levelB x.unit && (levelF x.unit == _)) = true
        rw [o1, o2]; simp [aimI, setAim]
      · exact lok_aim h rfl (fun _ => rfl)
theorem kinv_rides {s : Lw.Cor} (h : KInv s) : ∀ i : Nat, i ≤ s.ls.length → KInv (ridesK s (s.ls.take i))
  | 0, _ => h
  | i + 1, hi => by
    have ih := kinv_rides h i (by omega)
    have hsh := (rides_shape (kinv_ok h) i (by omega)).1
    rw [rides_take s (show i < s.ls.length by omega) zeroL]
    rw [drop_get (show i < s.ls.length by omega) zeroL] at hsh
    generalize ridesK s (s.ls.take i) = t at *
    generalize s.ls.getD i zeroL = l at *
    have hm : l ∈ t.ls := by rw [hsh]; simp
    have k := ih.2.1 l hm
    have hsm := rideT_same (lateB t.now l.until_) t.c l (atC t.cars l.car) t.now
    unfold roundK
    exact kinv_after _ _ ih hm hsm.1 hsm.2.1 (rideT_good k.1) (fun _ => rideT_lok k.2.2)
theorem firstA_spec {fl : List Int} : ∀ {qs : List Lw.Ask}, (firstA fl qs).2 = true → (firstA fl qs).1 ∈ qs ∧ inL fl (firstA fl qs).1.fleet = false
  | [], h => by cases h
  | a :: r, h => by
    unfold firstA at h ⊢
    cases hi : inL fl a.fleet
    · rw [cond_false]; exact ⟨List.mem_cons_self .., hi⟩
    · rw [hi, cond_true] at h
      rw [cond_true]
      have := firstA_spec h
      exact ⟨List.mem_cons_of_mem _ this.1, this.2⟩
theorem inL_none {fl : List Int} {n : Int} (h : inL fl n = false) : n ∉ fl := by
  unfold inL at h
  have h := of_decide_eq_false h
  intro hm
  rcases idxG_spec (p := eqP n) fl 0 with ⟨_, k⟩ | ⟨j, x, e, hx, hp⟩
  · obtain ⟨j, hj⟩ := List.getElem?_of_mem hm
    have := k j n hj
    unfold eqP at this
    simp at this
  · omega
theorem full_free {s : Lw.Cor} {n : Int} (h : inL (fullK s) n = false) : countL s.ls n < quotaI s.c := by
  have hn := inL_none h
  rcases Int.lt_or_le (countL s.ls n) (quotaI s.c) with k | k
  · exact k
  · exfalso
    have hq := quotaI_pos s.c
    have hc : 0 < s.ls.countP (fun x => x.ask.fleet == n) := by unfold countL at k; omega
    obtain ⟨l, hl, hp⟩ := List.countP_pos_iff.1 hc
    have hf : l.ask.fleet = n := beq_iff_eq.1 hp
    apply hn
    unfold fullK fullN
    rw [List.mem_map]
    refine ⟨l, List.mem_filter.2 ⟨hl, ?_⟩, hf⟩
    unfold fullP
    rw [hf, decide_eq_false (by omega)]; rfl
theorem take_ok {c : Config} {cars : List Lw.Car} {n f : Int} (h : ¬ takeE c cars n f ≠ 0) : okC c cars n f = true ∧ idleB (atC cars n) = true := by
  have h : takeE c cars n f = 0 := Decidable.not_not.1 h
  unfold takeE at h
  split at h
  · omega
  · rename_i ho
    split at h
    · rename_i hi
      exact ⟨by simpa using ho, hi⟩
    · omega
theorem idle_mode {x : Lw.Car} (h : idleB x = true) : x.mode = 0 := by
  unfold idleB at h
  simp only [Bool.and_eq_true, decide_eq_true_eq] at h
  exact h.2.1
theorem two_usable {cars : List Lw.Car} (h : cntI usableB cars ≥ 2) (n : Int) : ∃ m : Int, 0 ≤ m ∧ m < cars.length ∧ m ≠ n ∧ (atC cars m).mode = 0 := by
  -- without the car n one at least is left
  rcases Classical.em (∃ m : Int, 0 ≤ m ∧ m < cars.length ∧ m ≠ n ∧ (atC cars m).mode = 0) with k | k
  · exact k
  · exfalso
    have hall : ∀ j : Nat, (hj : j < cars.length) → (j : Int) ≠ n → usableB cars[j] = false := fun j hj hne => by
      rcases Bool.eq_false_or_eq_true (usableB cars[j]) with hu | hu
      · exfalso
        apply k
        refine ⟨j, by omega, by omega, hne, ?_⟩
        have e : atC cars j = cars[j] := by unfold atC; rw [Int.toNat_natCast, List.getD_eq_getElem?_getD, List.getElem?_eq_getElem hj]; rfl
        rw [e]
        unfold usableB at hu
        simp only [Bool.and_eq_true, beq_iff_eq] at hu
        exact hu.1
      · exact hu
    have key : ∀ (l : List Lw.Car) (b : Nat), (∀ j : Nat, (hj : j < l.length) → ((b + j : Nat) : Int) ≠ n → usableB l[j] = false) → l.countP usableB ≤ 1 := by
      intro l
      induction l with
      | nil => intro b _; simp
      | cons x r ih =>
        intro b hh
        rw [List.countP_cons]
        by_cases hx : (b : Int) = n
        · have hr : r.countP usableB = 0 := by
            rw [List.countP_eq_zero]
            intro y hy
            obtain ⟨j, hj, rfl⟩ := List.getElem_of_mem hy
            have := hh (j + 1) (by simp only [List.length_cons]; omega) (by omega)
            simp only [List.getElem_cons_succ] at this
            rw [this]; decide
          rw [hr]; split <;> omega
        · have h0 := hh 0 (by simp) (by simpa using hx)
          simp only [List.getElem_cons_zero] at h0
          rw [h0]
          have := ih (b + 1) (fun j hj hne => by
            have := hh (j + 1) (by simp only [List.length_cons]; omega) (by omega)
            simpa using this)
          simpa using this
    have := key cars 0 (fun j hj hne => hall j hj (by simpa using hne))
    unfold cntI at h
    omega
theorem kinv_grant {s : Lw.Cor} (hlen : s.cars.length ≤ 8) (h : KInv s) : KInv (grantK s) := by
  have hc := cinv_grant h.1
  unfold grantK at hc ⊢
  split
  · exact h
  rename_i hcalm
  split
  · exact h
  rename_i hfirst
  split
  · exact h
  rename_i hn
  rw [if_neg hcalm, if_neg hfirst, if_neg hn] at hc
  obtain ⟨ho, hi⟩ := take_ok (fun k => hn (.inr k))
  have hf := firstA_spec (fl := fullK s) (qs := s.qs) (by simpa using hfirst)
  have hq := full_free hf.2
  have ha := h.2.2.1 _ hf.1
  generalize (firstA (fullK s) s.qs).1 = a at *
  generalize nearI s.cars a.src = n at *
  have hr := okC_iff ho
  have hmd := idle_mode hi
  have htk : takeL s.c s.cars n a.src = modC s.cars n (setTake (atC s.cars n) a.src) := by
    unfold takeL
    rw [if_pos (Decidable.not_not.1 (fun k => hn (.inr k)))]
  have hnc : ∀ l ∈ s.ls, l.car ≠ n := fun l hl e => by
    have := (h.2.1 l hl).2.2.1
    rw [e, hmd] at this
    exact absurd this (by decide)
  have hgood : goodL s.c (grantL s a n) = true := goodL_of ha.1 (show (1 : Int) ≤ 1 ∧ (1 : Int) ≤ 4 by decide) (show 0 ≤ n ∧ n < 8 by omega)
  have hput : putLs s.c s.ls (grantL s a n) = s.ls ++ [grantL s a n] := by
    have e : putE s.c s.ls (grantL s a n) = 0 := by
      unfold putE
      rw [hgood, if_neg (by decide), if_neg, if_pos (show countL s.ls (grantL s a n).ask.fleet < quotaI s.c from hq)]
      rcases idxG_spec (p := putP (grantL s a n)) s.ls 0 with ⟨e, _⟩ | ⟨j, x, e, hx, hp⟩
      · omega
      · exfalso
        have hxm := List.mem_of_getElem? hx
        unfold putP at hp
        rw [Bool.or_eq_true, beq_iff_eq, beq_iff_eq] at hp
        rcases hp with hp | hp
        · exact ha.2 x hxm hp
        · exact hnc x hxm hp
    unfold putLs
    rw [if_pos e]
  have hcalm : calmK s = true := by simpa using hcalm
  unfold calmK at hcalm
  rw [Bool.and_eq_true] at hcalm
  obtain ⟨m, m1, m2, m3, m4⟩ := two_usable (of_decide_eq_true hcalm.1) n
  have hdrop := drop_filter (qs := s.qs) a.session h.1.2
  refine ⟨hc, fun l hl => ?_, fun b hb => ?_, fun k h0 h1 hm => ?_, m, m1, ?_, ?_⟩
  · have hl : l ∈ putLs s.c s.ls (grantL s a n) := hl
    rw [hput] at hl
    show goodL s.c l = true ∧ l.car < ((takeL s.c s.cars n a.src).length : Int) ∧ LOk (atC (takeL s.c s.cars n a.src) l.car) l
    rw [htk, modC_len]
    rcases List.mem_append.1 hl with hl | hl
    · have k := h.2.1 l hl
      refine ⟨k.1, k.2.1, ?_⟩
      rw [atC_mod ⟨hr.1, hr.2.1⟩ (goodL_ask k.1).2.2.1, if_neg (hnc l hl)]
      exact k.2.2
    · rw [List.mem_singleton] at hl
      subst hl
      refine ⟨hgood, hr.2.1, ?_⟩
      rw [atC_mod ⟨hr.1, hr.2.1⟩ (show 0 ≤ (grantL s a n).car from hr.1), if_pos (show (grantL s a n).car = n from rfl)]
      exact ⟨rfl, rfl, rfl, fun hp => by
        have hp : (1 : Int) = 2 ∨ (1 : Int) = 4 := hp
        omega⟩
  · have hb : b ∈ qdropL s.qs a.session := hb
    rw [hdrop, List.mem_filter] at hb
    refine ⟨(h.2.2.1 b hb.1).1, fun l hl => ?_⟩
    have hl : l ∈ putLs s.c s.ls (grantL s a n) := hl
    rw [hput] at hl
    rcases List.mem_append.1 hl with hl | hl
    · exact (h.2.2.1 b hb.1).2 l hl
    · rw [List.mem_singleton] at hl
      subst hl
      exact fun e => (bne_iff_ne.1 hb.2) e.symm
  · have h1 : k < ((takeL s.c s.cars n a.src).length : Int) := h1
    have hm : (atC (takeL s.c s.cars n a.src) k).mode = 1 := hm
    show ∃ l ∈ putLs s.c s.ls (grantL s a n), l.car = k
    rw [hput]
    rw [htk, modC_len] at h1
    rw [htk, atC_mod ⟨hr.1, hr.2.1⟩ h0] at hm
    by_cases e : k = n
    · exact ⟨grantL s a n, by simp, e.symm⟩
    · rw [if_neg e] at hm
      obtain ⟨l, hl, hlc⟩ := h.2.2.2.1 k h0 h1 hm
      exact ⟨l, by simp [hl], hlc⟩
  · show m < ((takeL s.c s.cars n a.src).length : Int)
    rw [htk, modC_len]; exact m2
  · show (atC (takeL s.c s.cars n a.src) m).mode = 0
    rw [htk, atC_mod ⟨hr.1, hr.2.1⟩ m1, if_neg m3]; exact m4
theorem kinv_tick {m : Nat} {s : Lw.Cor} (hb : BInv m s) (h : KInv s) : KInv (quietK (tickK s)) := by
  have hm := gInv_mild hb.2.1
  have hs := kinv_step hm h
  have hr := kinv_rides hs s.ls.length (Nat.le_refl _)
  have hk := (rides_keep s.ls (stepK s)).1
  have e : (stepK s).ls = s.ls := rfl
  rw [e, List.take_length] at hr
  have hl : (ridesK (stepK s) s.ls).cars.length ≤ 8 := by
    rw [hk.2.2.2.2.2.2.1]
    exact (gInv_len (gInv_tick s.ws hb.2.1)).2
  exact kinv_grant hl hr
theorem leaseI_range (c : Config) : 0 ≤ leaseI c ∧ leaseI c ≤ 1100000 := by
  have := tripI_range c
  have hs := spanI_range c.hold
  have hr := renewI_range c.renew
  have hm := mul_range (a := spanI c.hold) (b := 2 + renewI c.renew) (A := 1000) (B := 1002) (by omega) (by omega) (by omega) (by omega)
  unfold leaseI
  generalize spanI c.hold * (2 + renewI c.renew) = z at hm
  omega
theorem remK_pos {c : Config} {p r : Int} (h : r ≤ renewI c.renew) : 0 ≤ remK c p r := by
  have := tripI_range c
  have hs := spanI_range c.hold
  have hz := Int.mul_nonneg (a := renewI c.renew - r) (b := spanI c.hold) (by omega) (by omega)
  unfold remK
  generalize (renewI c.renew - r) * spanI c.hold = z at hz
  (repeat' split) <;> omega
theorem addT_sm {a b : Int} (h : 0 ≤ a) (k : 0 ≤ b) (n : a + b ≤ 1099511627776) : addT a b = a + b := by
  unfold addT
  rw [timeI_id (n := a) (by omega) (by omega), timeI_id (n := b) (by omega) (by omega), timeI_id (by omega) n]
theorem ep_hear {c : Config} {l : Lw.Lease} {x : Lw.Car} {now : Int} {m : Lw.Msg} (h0 : 0 ≤ now) (h1 : now ≤ 100000) (h : EP c l now) : EP c (rideH c l x now m).1 now := by
  obtain ⟨hr, hn, hb, hg⟩ := h
  have hT := tripI_range c
  have hH := spanI_range c.hold
  have hl := leaseI_range c
  have hq := renewI_range c.renew
  have h2 := remK_pos (p := l.phase) hr.2
  have e1 := addT_sm (a := now) (b := tripI c) h0 (by omega) (by omega)
  have e2 := addT_sm (a := now) (b := spanI c.hold) h0 (by omega) (by omega)
  unfold rideH
  split
  · rename_i h3
    split
    · refine ⟨hr, by simp only; omega, ?_, hg⟩
      simp only [e1]
      rw [h3.2] at hb
      unfold remK at *
      simp only [Int.reduceLE, if_true, if_false, Int.reduceEq] at *
      omega
    · exact ⟨hr, hn, hb, hg⟩
  · split
    · exact ⟨hr, hn, hb, hg⟩
    · split
      · rename_i h3
        have e3 : IntKind.i64.wrap (l.renewed + 1) = l.renewed + 1 := wrap_id (by omega) (by omega)
        refine ⟨by simp only [e3]; omega, by simp only; omega, ?_, hg⟩
        simp only [e2, e3]
        have e4 : (renewI c.renew - (l.renewed + 1)) * spanI c.hold = (renewI c.renew - l.renewed) * spanI c.hold - spanI c.hold := by
          rw [show renewI c.renew - (l.renewed + 1) = (renewI c.renew - l.renewed) - 1 by omega, Int.sub_mul, Int.one_mul]
        unfold remK at *
        rw [e4]
        generalize (renewI c.renew - l.renewed) * spanI c.hold = z at *
        generalize (if l.phase ≤ 1 then spanI c.hold + tripI c + spanI c.hold else if l.phase = 2 then tripI c + spanI c.hold else if l.phase = 3 then spanI c.hold else 0) = y at *
        omega
      · exact ⟨hr, hn, hb, hg⟩
theorem ep_tick {c : Config} {l : Lw.Lease} {x : Lw.Car} {now : Int} (h0 : 0 ≤ now) (h1 : now ≤ 100000) (h : EP c l now) (k : (rideT (lateB (now + 1) l.until_) c l x (now + 1)).2.2 = false) : EP c (rideT (lateB (now + 1) l.until_) c l x (now + 1)).1 (now + 1) := by
  obtain ⟨hr, hn, hb, hg⟩ := h
  have hT := tripI_range c
  have hH := spanI_range c.hold
  have hl := leaseI_range c
  have hq := renewI_range c.renew
  have h2 := remK_pos (p := l.phase) hr.2
  have e2 := addT_sm (a := now + 1) (b := spanI c.hold) (by omega) (by omega) (by omega)
  have hlate : lateB (now + 1) l.until_ = decide (now + 1 ≥ l.until_) := by
    unfold lateB; rw [timeI_id (n := now + 1) (by omega) (by omega), timeI_id (n := l.until_) (by omega) (by omega)]
  rw [hlate] at k ⊢
  unfold rideT at k ⊢
  by_cases h3 : x.broken = true ∨ decide (now + 1 ≥ l.until_) = true
  · rw [if_pos h3] at k; cases k
  rw [if_neg h3]
  have h3' : now + 1 < l.until_ := by
    simp only [not_or, decide_eq_true_eq] at h3; omega
  by_cases h4 : l.phase = 1 ∧ openAt x l.ask.src = true
  · rw [if_pos h4]
    refine ⟨hr, by simp only; omega, ?_, by simp only; omega⟩
    simp only [e2]
    rw [h4.1] at hb
    unfold remK at *
    simp only [Int.reduceLE, if_true, if_false, Int.reduceEq] at *
    omega
  rw [if_neg h4]
  by_cases h5 : l.phase = 3 ∧ openAt x l.ask.dst = true
  · rw [if_pos h5]
    refine ⟨hr, by simp only; omega, ?_, by simp only; omega⟩
    simp only [e2]
    rw [h5.1] at hb
    unfold remK at *
    simp only [Int.reduceLE, if_true, if_false, Int.reduceEq] at *
    omega
  rw [if_neg h5]
  exact ⟨hr, h3', hb, by simp only; omega⟩
theorem ep_start (s : Lw.Cor) (a : Lw.Ask) (n : Int) (h0 : 0 ≤ s.now) (h1 : s.now ≤ 100000) : EP s.c (grantL s a n) s.now := by
  have hT := tripI_range s.c
  have hH := spanI_range s.c.hold
  have hq := renewI_range s.c.renew
  have e := addT_sm (a := s.now) (b := tripI s.c) h0 (by omega) (by omega)
  unfold grantL
  refine ⟨by simp only; omega, by simp only [e]; omega, ?_, by simp only; omega⟩
  simp only [e]
  unfold remK leaseI
  simp only [Int.le_refl, if_true, Int.sub_zero]
  rw [Int.mul_add, Int.mul_comm (spanI s.c.hold) (renewI s.c.renew)]
  omega
theorem einv_after {m : Nat} {s : Lw.Cor} {x : Lw.Lease} (ms : List Lw.Msg) (v : Bool) (h : EInv m s) (hx : EP s.c x s.now) : EInv m (afterK s x ms v) := by
  have hk := (after_keep s x ms v).1
  refine ⟨by rw [hk.2.1]; exact h.1, fun l hl => ?_⟩
  rw [hk.1, hk.2.1]
  have : l ∈ s.ls ∨ l = x := by
    unfold afterK at hl
    split at hl
    · exact .inl ((endLs_sub s.ls x.ask.session).subset hl)
    · exact setLs_mem (show l ∈ setLs s.c s.ls x from hl)
  rcases this with hl | rfl
  · exact h.2 l hl
  · exact hx
theorem einv_hear {m : Nat} {s : Lw.Cor} (hm : m ≤ 10000) (n : Int) (x : Lw.Msg) (h : EInv m s) : EInv m (hearK s n x) := by
  unfold hearK
  split
  · rename_i hb
    exact einv_after _ _ h (ep_hear h.1.1 (by have := h.1.2; omega) (h.2 _ (getL_mem hb)))
  · exact h
theorem einv_ob1 {m : Nat} {s : Lw.Cor} (hm : m ≤ 10000) (l : Lw.Lease) (h : EInv m s) : EInv m (ob1 s l).1 := by
  unfold ob1
  split
  · exact einv_hear (s := loadK s l.car l.ask.mass) hm _ _ h
  · split
    · exact einv_hear (s := loadK s l.car 0) hm _ _ h
    · exact h
theorem einv_obF {m : Nat} (hm : m ≤ 10000) : ∀ (l : List Lw.Lease) (p : Lw.Cor × List Lw.Event), EInv m p.1 → EInv m (l.foldl obF p).1
  | [], p, h => h
  | x :: r, p, h => einv_obF hm r (obF p x) (einv_ob1 hm x h)
theorem einv_do {m : Nat} {s : Lw.Cor} (hm : m ≤ 10000) (o : Lw.COp) (h : EInv m s) : EInv m (doK s o).1 := by
  unfold doK
  split
  · show EInv m (quietK (askK s o.ask))
    unfold askK
    split
    · exact h
    · split <;> exact h
  split
  · exact einv_hear hm _ _ h
  split
  · exact ⟨h.1, fun l hl => h.2 l ((endLs_sub s.ls o.ask.session).subset hl)⟩
  split
  · exact h
  split
  · exact h
  split
  · exact h
  split
  · exact h
  split
  · exact h
  split
  · exact einv_obF hm s.ls (s, []) h
  · exact h
theorem einv_grant {m : Nat} {s : Lw.Cor} (hm : m ≤ 10000) (h : EInv m s) : EInv m (grantK s) := by
  unfold grantK
  split
  · exact h
  split
  · exact h
  split
  · exact h
  · refine ⟨h.1, fun l hl => ?_⟩
    rcases putLs_mem (show l ∈ putLs s.c s.ls (grantL s _ _) from hl) with hl | rfl
    · exact h.2 l hl
    · exact ep_start s _ _ h.1.1 (by have := h.1.2; omega)
theorem einv_tick {m : Nat} {s : Lw.Cor} (hm : m < 10000) (hb : BInv m s) (hk : KInv s) (h : EInv m s) : EInv (m + 1) (quietK (tickK s)) := by
  have hs := kinv_step (gInv_mild hb.2.1) hk
  have hsh := (rides_shape (kinv_ok hs) s.ls.length (Nat.le_refl _)).1
  have hkp := (rides_keep s.ls (stepK s)).1
  have e : (stepK s).ls = s.ls := rfl
  have hnow : addT s.now 1 = s.now + 1 := addT_sm h.1.1 (by omega) (by have := h.1.2; omega)
  rw [e, List.take_length, List.drop_length, List.append_nil] at hsh
  have hr : EInv (m + 1) (ridesK (stepK s) s.ls) := by
    have h1 := h.1
    refine ⟨by rw [hkp.2.1]; show 0 ≤ addT s.now 1 ∧ addT s.now 1 ≤ ((m + 1 : Nat) : Int); omega, fun l hl => ?_⟩
    rw [hkp.1, hkp.2.1]
    rw [hsh] at hl
    unfold filtR at hl
    obtain ⟨y, hy, rfl⟩ := List.mem_map.1 hl
    obtain ⟨hy1, hy2⟩ := List.mem_filter.1 hy
    have hv : (rideK (stepK s) y).2.2 = false := by simpa using hy2
    show EP s.c (rideK (stepK s) y).1 (addT s.now 1)
    unfold rideK at hv ⊢
    rw [show (stepK s).now = s.now + 1 from hnow] at hv ⊢
    rw [hnow]
    exact ep_tick h.1.1 (by omega) (h.2 y hy1) hv
  exact einv_grant (by omega) hr
theorem obF_c : ∀ (l : List Lw.Lease) (p : Lw.Cor × List Lw.Event), (l.foldl obF p).1.c = p.1.c
  | [], p => rfl
  | x :: r, p => by
    refine (obF_c r (obF p x)).trans ?_
    show (ob1 p.1 x).1.c = p.1.c
    unfold ob1
    split
    · exact (hear_keep (loadK p.1 x.car x.ask.mass) x.ask.session ⟨9, 0, 0, 0⟩).1.1
    · split
      · exact (hear_keep (loadK p.1 x.car 0) x.ask.session ⟨13, 0, 0, 0⟩).1.1
      · rfl
theorem do_c (s : Lw.Cor) (o : Lw.COp) : (doK s o).1.c = s.c := by
  unfold doK
  split
  · show (askK s o.ask).c = s.c
    unfold askK
    split
    · rfl
    · split <;> rfl
  split
  · exact (hear_keep s o.ask.session o.msg).1.1
  split
  · rfl
  split
  · rfl
  split
  · rfl
  split
  · rfl
  split
  · rfl
  split
  · rfl
  split
  · exact obF_c s.ls (s, [])
  · rfl
theorem tick_c (s : Lw.Cor) : (quietK (tickK s)).c = s.c := by
  have h := (rides_keep s.ls (stepK s)).1.1
  refine Eq.trans ?_ h
  show (grantK (ridesK (stepK s) s.ls)).c = _
  unfold grantK
  split
  · rfl
  split
  · rfl
  split <;> rfl
theorem h10 : Holds Tryz.prog eid 10 (lawCS) := by
  refine hold tb157_ok Tryz.func10 (by kernel_rfl) ?_ (by kernel_rfl)
  intro xs M t h
  unfold lawCS at h
  split at h
  case h_2 => cases h
  rename_i k ops
  obtain ⟨c, hc, h1⟩ := Option.bind_eq_some_iff.1 h
  clear h
  cases h1
  cases Lw.Config.of_eq hc
  refine ⟨updN, ?_⟩
  intro hp
  have hl : ops.length ≤ Go.maxLen := hp
  have hbig : bigRow = 1073741824 := rfl
  have hmx := maxLen_eq
  rw [v10_vc]
  refine loopVC_selD (S := Lw.Cor × Int) v10b_m (fun t => v10b_fr c ops t.1 t.2) (fun t => v10b_mem c ops t.1 t.2) (fun t => (60 - t.2).toNat) (fun t => (0 ≤ t.2 ∧ t.2 ≤ 60) ∧ BInv (51 * t.2.toNat) t.1 ∧ KInv t.1 ∧ EInv (51 * t.2.toNat) t.1 ∧ t.1.c = c) ⟨[], [some 0, some 1, some 2, some 3, some 4, some 5, some 6, some 7, some 8, some 9], (newK c, 0), ⟨⟨by simp, by simp⟩, binv_new c, kinv_new c, ⟨⟨Int.le_refl 0, Int.le_refl 0⟩, fun _ h => absurd h List.not_mem_nil⟩, rfl⟩, _, rfl, rfl, rfl, rfl⟩ ?_
  rintro ⟨s, i⟩ ⟨⟨h0, h1⟩, hb, hk, he, hc⟩
  simp only at h0 h1 hb hk he hc
  refine (v10b_vc c ops s i _ _).mpr ?_
  refine cnd_iff.2 ⟨fun hi => ?_, fun hi => ends_pl rfl⟩
  have hi : i < ops.length ∧ i < 60 := by simpa [c_and] using hi
  have hb1 := binv_do (ops.getD i.toNat (RTy.zero .cop)) hb
  have hk1 := kinv_do (ops.getD i.toNat (RTy.zero .cop)) hk
  have he1 := einv_do (by omega) (ops.getD i.toNat (RTy.zero .cop)) he
  have hc1 := (do_c s (ops.getD i.toNat (RTy.zero .cop))).trans hc
  refine ⟨⟨h0, hi.1⟩, ⟨⟨rfl, rfl⟩, binv_mono hb (by omega)⟩, ?_⟩
  have he2 : EInv (51 * i.toNat + 1) (doK s (ops.getD i.toNat (RTy.zero .cop))).1 := ⟨⟨he1.1.1, by have := he1.1.2; omega⟩, he1.2⟩
  refine loopVC_selD (S := Lw.Cor × Int) v10c_m (fun t => v10c_fr c ops t.1 i t.2 (ops.getD i.toNat (RTy.zero .cop))) (fun t => v10c_mem c ops t.1 i t.2 (ops.getD i.toNat (RTy.zero .cop))) (fun t => (50 - t.2).toNat) (fun t => (0 ≤ t.2 ∧ t.2 ≤ 50) ∧ BInv (51 * i.toNat + 1 + t.2.toNat) t.1 ∧ KInv t.1 ∧ EInv (51 * i.toNat + 1 + t.2.toNat) t.1 ∧ t.1.c = c) ⟨[], [some 0, some 1, some 2, some 3, some 4, some 11, some 6, some 12, some 13, some 14, some 10], ((doK s (ops.getD i.toNat (RTy.zero .cop))).1, 0), ⟨⟨by simp, by simp⟩, hb1, hk1, he2, hc1⟩, _, rfl, rfl, rfl, rfl⟩ ?_
  rintro ⟨t, k⟩ ⟨⟨g0, g1⟩, gb, gk, ge, gc⟩
  simp only at g0 g1 gb gk ge gc
  refine (v10c_vc c ops t i k _ _ _ _).mpr ?_
  refine cnd_iff.2 ⟨fun hkk => ?_, fun hkk => ?_⟩
  · have hkk : k < 50 := by simp only [c_and, Bool.and_eq_true, decide_eq_true_eq] at hkk; exact hkk.2
    have gt := binv_tick gb
    have kt := kinv_tick gb gk
    have et := einv_tick (by omega) gb gk ge
    have ct := (tick_c t).trans gc
    have e1 : 51 * i.toNat + 1 + k.toNat + 1 = 51 * i.toNat + 1 + (k + 1).toNat := by omega
    rw [e1] at gt et
    have hcor := binv_cor gt (by omega)
    refine ⟨⟨⟨rfl, rfl⟩, binv_pre gb (by omega)⟩, ⟨⟨rfl, rfl⟩, hcor⟩, ?_⟩
    refine loopVC_selD (S := Int) v10d_m (fun j => v10d_fr c ops (quietK (tickK t)) i k j (ops.getD i.toNat (RTy.zero .cop)) (quietK (tickK t)).ls) (fun j => v10d_mem c ops (quietK (tickK t)) i k j (ops.getD i.toNat (RTy.zero .cop)) (quietK (tickK t)).ls) (fun j => ((quietK (tickK t)).ls.length - j).toNat) (fun j => 0 ≤ j ∧ j ≤ (quietK (tickK t)).ls.length) ⟨[], [some 0, some 1, some 2, some 3, some 4, some 11, some 6, some 12, some 13, some 14, some 10, some 17], 0, ⟨by simp, by simp⟩, _, rfl, rfl, rfl, rfl⟩ ?_
    rintro j ⟨j0, j1⟩
    refine (v10d_vc c ops (quietK (tickK t)) i k j _ _ _ _ _ _).mpr ?_
    generalize quietK (tickK t) = u at *
    have hll := hcor.2.1.2
    by_cases hj : j < u.ls.length
    · have hmem : u.ls.getD j.toNat (RTy.zero .lease) ∈ u.ls := getD_mem (by omega) _
      obtain ⟨_, p2, p3, p4⟩ := et.2 _ hmem
      have hr := remK_pos (c := u.c) (p := (u.ls.getD j.toNat (RTy.zero .lease)).phase) (et.2 _ hmem).1.2
      have hn := et.1
      rw [ct] at p3 hr
      rw [wrap_id (n := j + 1) (by omega) (by omega), wrap_id (n := u.now - (u.ls.getD j.toNat (RTy.zero .lease)).granted) (by omega) (by omega)]
      refine cnd_iff.2 ⟨fun _ => ⟨⟨⟨rfl, rfl⟩, trivial⟩, ⟨j0, hj⟩, cnd_iff.2 ⟨fun hb => ?_, fun _ => ⟨[], [some 0, some 1, some 2, some 3, some 4, some 5, some 6, some 7, some 8, some 9, some 10, some 11], j + 1, ⟨⟨by omega, by omega⟩, by omega⟩, _, rfl, rfl, rfl, rfl⟩⟩⟩, fun h => absurd hj (of_decide_eq_false h)⟩
      exfalso
      have hb := of_decide_eq_true hb
      omega
    · refine cnd_iff.2 ⟨fun h => absurd (of_decide_eq_true h) hj, fun _ => ?_⟩
      rw [wrap_id (n := k + 1) (by omega) (by omega)]
      exact ⟨[], [some 0, some 1, some 2, some 3, some 4, some 5, some 6, some 7, some 8, some 9, some 10], (u, k + 1), ⟨⟨⟨by simp only; omega, by simp only; omega⟩, gt, kt, et, ct⟩, by simp only; omega⟩, _, rfl, rfl, rfl, rfl⟩
  · rw [wrap_id (n := i + 1) (by omega) (by omega)]
    have ge2 : EInv (51 * (i + 1).toNat) t := ⟨⟨ge.1.1, by have := ge.1.2; omega⟩, ge.2⟩
    exact ⟨[], [some 0, some 1, some 2, some 3, some 4, some 5, some 6, some 7, some 8, some 9], (t, i + 1), ⟨⟨⟨by simp only; omega, by simp only; omega⟩, binv_mono gb (by simp only; omega), gk, ge2, gc⟩, by simp only; omega⟩, _, rfl, rfl, rfl, rfl⟩
theorem tb158_ok : GamOk Tryz.prog eid (gam tb158) := gam_cons h10 tb157_ok
end Go.Proofs.YtjgmkpidiaojkaaGreat
