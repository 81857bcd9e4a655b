/- The functions of this group answer so. -/
import Derived.Test.YtjgmkpidiaojkaaGreatFwCorLV
import Derived.Test.YtjgmkpidiaojkaaGreatFwCorT
set_option linter.unusedVariables false
set_option linter.unusedSimpArgs false
set_option maxRecDepth 20000
set_option maxHeartbeats 4000000
namespace Go.Proofs.YtjgmkpidiaojkaaGreat
open Lw
attribute [local irreducible] Lw.vc Lw.vcFunc
theorem getL_mem {p : Lw.Lease → Bool} {ls : List Lw.Lease} (h : getB p ls = true) : getL p ls ∈ ls := by
  unfold getB at h
  have hn : ¬ idxG p ls 0 < 0 := by simpa using h
  unfold getL
  rw [if_neg hn]
  have := idxG_range (p := p) (l := ls) (i := 0) (by omega)
  exact getD_mem (by omega) _
theorem rideT_same (b : Bool) (c : Config) (l : Lw.Lease) (x : Lw.Car) (now : Int) : (rideT b c l x now).1.ask = l.ask ∧ (rideT b c l x now).1.car = l.car ∧ (rideT b c l x now).1.granted = l.granted := by
  unfold rideT
  (repeat' split) <;> simp
theorem rideH_same (c : Config) (l : Lw.Lease) (x : Lw.Car) (now : Int) (m : Lw.Msg) : (rideH c l x now m).1.ask = l.ask ∧ (rideH c l x now m).1.car = l.car ∧ (rideH c l x now m).1.granted = l.granted := by
  unfold rideH
  (repeat' split) <;> simp
theorem rideH_one (c : Config) (l : Lw.Lease) (x : Lw.Car) (now : Int) (m : Lw.Msg) : (rideH c l x now m).2.1.length = 1 := by
  unfold rideH
  (repeat' split) <;> simp
theorem endLs_sub (ls : List Lw.Lease) (n : Int) : (endLs ls n).Sublist ls := by
  unfold endLs
  split
  · exact List.Sublist.refl _
  · exact cutL_sub ls _ (by omega)
theorem qdrop_sub (ls : List Lw.Ask) (n : Int) : (qdropL ls n).Sublist ls := by
  unfold qdropL
  split
  · exact cutL_sub ls _ (by omega)
  · exact List.Sublist.refl _
theorem setLs_mem {c : Config} {ls : List Lw.Lease} {l x : Lw.Lease} (h : x ∈ setLs c ls l) : x ∈ ls ∨ x = l := by
  unfold setLs at h
  split at h
  · exact List.mem_or_eq_of_mem_set h
  · exact .inl h
theorem putLs_mem {c : Config} {ls : List Lw.Lease} {l x : Lw.Lease} (h : x ∈ putLs c ls l) : x ∈ ls ∨ x = l := by
  unfold putLs at h
  split at h
  · rcases List.mem_append.1 h with h | h
    · exact .inl h
    · exact .inr (List.mem_singleton.1 h)
  · exact .inl h
theorem end_in {s : Lw.Cor} {n : Int} (h : CarsIn s) : CarsIn (endK s n) := by
  intro x hx
  have h1 := h x ((endLs_sub s.ls n).subset hx)
  have h2 := (end_keep s n).2.2.2.2.2.2.1
  exact ⟨h1.1, by rw [h2]; exact h1.2⟩
theorem after_in {s : Lw.Cor} {l : Lw.Lease} {ms : List Lw.Msg} {v : Bool} (h : CarsIn s) (hl : 0 ≤ l.car ∧ l.car < s.cars.length) : CarsIn (afterK s l ms v) := by
  unfold afterK
  split
  · exact end_in (s := sayK s l.ask.session ms) h
  · intro x hx
    have hc : (aimL s.c s.cars l.car (aimI l) true).length = s.cars.length := aimL_len _ _ _ _ _
    show 0 ≤ x.car ∧ x.car < ((aimL s.c s.cars l.car (aimI l) true).length : Int)
    rw [hc]
    rcases setLs_mem (show x ∈ setLs s.c s.ls l from hx) with hx | rfl
    · exact h x hx
    · exact hl
theorem hear_keep (s : Lw.Cor) (n : Int) (m : Lw.Msg) : KeepK s (hearK s n m) ∧ (hearK s n m).out.length = s.out.length + 1 := by
  unfold hearK
  split
  · have h := after_keep s (rideH s.c (getL (sesP n) s.ls) (atC s.cars (getL (sesP n) s.ls).car) s.now m).1 (rideH s.c (getL (sesP n) s.ls) (atC s.cars (getL (sesP n) s.ls).car) s.now m).2.1 (rideH s.c (getL (sesP n) s.ls) (atC s.cars (getL (sesP n) s.ls).car) s.now m).2.2
    exact ⟨h.1, by rw [h.2, List.length_append, List.length_map, rideH_one]⟩
  · exact ⟨⟨rfl, rfl, rfl, rfl, rfl, Nat.le_refl _, rfl, id⟩, by unfold sayK; simp⟩
theorem hear_in {s : Lw.Cor} {n : Int} {m : Lw.Msg} (h : CarsIn s) : CarsIn (hearK s n m) := by
  unfold hearK
  split
  · rename_i hb
    have hl := h _ (getL_mem hb)
    refine after_in h ?_
    rw [(rideH_same _ _ _ _ _).2.1]
    exact hl
  · exact h
theorem binv_cor {m : Nat} {s : Lw.Cor} (h : BInv m s) (hm : m ≤ 10000) : CorB s := by
  obtain ⟨h0, h1, h2, h3, h4, h5⟩ := h
  exact ⟨by omega, ⟨by omega, by omega⟩, gInv_mild h1⟩
theorem binv_out {m : Nat} {s : Lw.Cor} (h : BInv m s) : OutB s := by
  unfold OutB
  rw [h.1]; simp
theorem binv_mono {m n : Nat} {s : Lw.Cor} (h : BInv m s) (hm : m ≤ n) : BInv n s := by
  obtain ⟨h0, h1, h2, h3, h4, h5⟩ := h
  exact ⟨h0, h1, h2, by omega, by omega, by omega⟩
theorem binv_new (c : Config) : BInv 0 (newK c) := ⟨rfl, gInv_new c, (fun _ h => absurd h List.not_mem_nil : CarsIn (newK c)), Nat.le_refl _, Nat.le_refl _, Nat.le_refl _⟩
theorem binv_keep {m : Nat} {s t : Lw.Cor} (h : BInv m s) (k : KeepK s t) (hi : CarsIn t) : BInv m (quietK t) := by
  obtain ⟨h0, h1, h2, h3, h4, h5⟩ := h
  obtain ⟨k1, k2, k3, k4, k5, k6, k7, k8⟩ := k
  exact ⟨rfl, show GInv t.c t.cars from k1.symm ▸ k8 h1, hi, show t.ws.length ≤ m by rw [k4]; exact h3, show t.qs.length ≤ m by rw [k5]; exact h4, show t.ls.length ≤ m by omega⟩
theorem binv_hear {m : Nat} {s : Lw.Cor} (n : Int) (x : Lw.Msg) (h : BInv m s) : BInv m (quietK (hearK s n x)) := binv_keep h (hear_keep s n x).1 (hear_in h.2.2.1)
theorem binv_cars {m : Nat} {s : Lw.Cor} {cars : List Lw.Car} (h : BInv m s) (hg : GInv s.c cars) : BInv m (setC s cars) := by
  obtain ⟨h0, h1, h2, h3, h4, h5⟩ := h
  refine ⟨h0, hg, fun x hx => ?_, h3, h4, h5⟩
  have := h2 x hx
  have e : (cars.length : Int) = s.cars.length := hg.1.trans h1.1.symm
  exact ⟨this.1, by show x.car < (cars.length : Int); omega⟩
theorem binv_carsW {m : Nat} {s : Lw.Cor} {cars : List Lw.Car} {ws : List Lw.Wait} (h : BInv m s) (hg : GInv s.c cars) (hw : ws.length ≤ m) : BInv m (setCW s cars ws) := by
  have h1 := binv_cars h hg
  exact ⟨h1.1, h1.2.1, h1.2.2.1, hw, h1.2.2.2.2.1, h1.2.2.2.2.2⟩
theorem qput_len (r : Int) (ls : List Lw.Ask) (a : Lw.Ask) : (qputL r ls a).length ≤ ls.length + 1 := by
  unfold qputL
  split <;> simp
theorem binv_ask {m : Nat} {s : Lw.Cor} (a : Lw.Ask) (h : BInv m s) : BInv (m + 1) (quietK (askK s a)) := by
  obtain ⟨h0, h1, h2, h3, h4, h5⟩ := h
  have hq := qput_len s.r s.qs a
  unfold askK
  split
  · exact ⟨rfl, h1, h2, by show s.ws.length ≤ _; omega, by show s.qs.length ≤ _; omega, by show s.ls.length ≤ _; omega⟩
  · split
    · exact ⟨rfl, h1, h2, by show s.ws.length ≤ _; omega, by show s.qs.length ≤ _; omega, by show s.ls.length ≤ _; omega⟩
    · exact ⟨rfl, h1, h2, by show s.ws.length ≤ _; omega, by show (qputL s.r s.qs a).length ≤ _; omega, by show s.ls.length ≤ _; omega⟩
theorem binv_gone {m : Nat} {s : Lw.Cor} (n : Int) (h : BInv m s) : BInv m (goneK s n) := by
  obtain ⟨h0, h1, h2, h3, h4, h5⟩ := h
  obtain ⟨k1, k2, k3, k4, k5, k6, k7, k8⟩ := end_keep s n
  have hq := (qdrop_sub s.qs n).length_le
  exact ⟨h0, k8 h1, end_in h2, h3, show (qdropL s.qs n).length ≤ m by omega, show (endLs s.ls n).length ≤ m by have := endLs_len s.ls n; omega⟩
theorem binv_ob1 {m : Nat} {s : Lw.Cor} (l : Lw.Lease) (h : BInv m s) : BInv m (ob1 s l).1 ∧ (ob1 s l).2.length ≤ 1 := by
  unfold ob1
  split
  · have h1 : BInv m (loadK s l.car l.ask.mass) := binv_cars h (gInv_load _ _ h.2.1)
    refine ⟨binv_hear _ _ h1, ?_⟩
    show (hearK _ _ _).out.length ≤ 1
    rw [(hear_keep _ _ _).2, h1.1]; simp
  · split
    · have h1 : BInv m (loadK s l.car 0) := binv_cars h (gInv_load _ _ h.2.1)
      refine ⟨binv_hear _ _ h1, ?_⟩
      show (hearK _ _ _).out.length ≤ 1
      rw [(hear_keep _ _ _).2, h1.1]; simp
    · exact ⟨h, by simp⟩
theorem binv_obF {m : Nat} : ∀ (l : List Lw.Lease) (p : Lw.Cor × List Lw.Event), BInv m p.1 → BInv m (l.foldl obF p).1 ∧ (l.foldl obF p).2.length ≤ p.2.length + l.length
  | [], p, h => ⟨h, by simp⟩
  | x :: r, p, h => by
    have h1 := binv_ob1 x h
    have h2 := binv_obF r (obF p x) h1.1
    refine ⟨h2.1, ?_⟩
    have h3 := h2.2
    have e : (obF p x).2.length = p.2.length + (ob1 p.1 x).2.length := by unfold obF; simp
    have h4 := h1.2
    show (r.foldl obF (obF p x)).2.length ≤ _
    simp only [List.length_cons]
    omega
theorem ob_take (s : Lw.Cor) {l : List Lw.Lease} {i : Nat} (h : i < l.length) (z : Lw.Lease) : obN s (l.take (i + 1)) = obF (obN s (l.take i)) (l.getD i z) := by
  rw [List.take_add_one, List.getElem?_eq_getElem h, List.getD_eq_getElem?_getD, List.getElem?_eq_getElem h]
  unfold obN
  rw [Option.toList_some, List.foldl_append]; rfl
theorem binv_do {m : Nat} {s : Lw.Cor} (o : Lw.COp) (h : BInv m s) : BInv (m + 1) (doK s o).1 := by
  have h1 := binv_mono h (Nat.le_succ m)
  unfold doK
  split
  · exact binv_ask _ h
  split
  · exact binv_hear _ _ h1
  split
  · exact binv_gone _ h1
  split
  · refine binv_carsW h1 h.2.1 ?_
    have := hallW_len s.c s.ws s.now o.a o.b
    have := h.2.2.2.1
    omega
  split
  · exact binv_cars h1 (gInv_press _ _ h.2.1)
  split
  · exact binv_cars h1 (gInv_load _ _ h.2.1)
  split
  · exact binv_cars h1 (gInv_curt _ _ h.2.1)
  split
  · refine binv_carsW h1 (gInv_fault _ _ h.2.1) ?_
    have : (faultW s.c s.cars s.ws o.a (o.b == 1)).length = s.ws.length := by unfold faultW; split <;> simp
    have := h.2.2.2.1
    omega
  split
  · exact (binv_obF s.ls (s, []) h1).1
  · exact h1
theorem rides_in : ∀ (l : List Lw.Lease) (s : Lw.Cor), CarsIn s → (∀ x ∈ l, 0 ≤ x.car ∧ x.car < s.cars.length) → CarsIn (ridesK s l)
  | [], s, h, _ => h
  | x :: r, s, h, hl => by
    have h1 : CarsIn (roundK s x) := by
      unfold roundK
      refine after_in h ?_
      have : (rideK s x).1.car = x.car := (rideT_same _ _ _ _ _).2.1
      rw [this]
      exact hl x (List.mem_cons_self ..)
    have hk := (round_keep s x).1.2.2.2.2.2.2.1
    exact rides_in r (roundK s x) h1 (fun y hy => by rw [hk]; exact hl y (List.mem_cons_of_mem _ hy))
theorem takeE_in {c : Config} {cars : List Lw.Car} {n f : Int} (h : ¬ takeE c cars n f ≠ 0) : 0 ≤ n ∧ n < cars.length := by
  have h : takeE c cars n f = 0 := Decidable.not_not.1 h
  unfold takeE at h
  split at h
  · omega
  · rename_i ho
    have ho : okC c cars n f = true := by simpa using ho
    exact ⟨(okC_iff ho).1, (okC_iff ho).2.1⟩
theorem binv_grant {m : Nat} {s : Lw.Cor} (h0 : s.out.length ≤ m) (h : BInv m (quietK s)) : BInv (m + 1) (quietK (grantK s)) := by
  have h1 : BInv (m + 1) (quietK s) := binv_mono h (Nat.le_succ m)
  unfold grantK
  split
  · exact h1
  split
  · exact h1
  split
  · exact h1
  · rename_i hn
    have hin := takeE_in (fun h => hn (.inr h))
    obtain ⟨_, g1, g2, g3, g4, g5⟩ := h
    have g1 : GInv s.c s.cars := g1
    have g2 : CarsIn s := g2
    have g3 : s.ws.length ≤ m := g3
    have g4 : s.qs.length ≤ m := g4
    have g5 : s.ls.length ≤ m := g5
    generalize (firstA (fullK s) s.qs).1 = a at *
    generalize nearI s.cars a.src = n at *
    refine ⟨rfl, show GInv s.c (takeL s.c s.cars n a.src) from gInv_take _ _ g1, fun x hx => ?_, show s.ws.length ≤ m + 1 by omega, show (qdropL s.qs a.session).length ≤ m + 1 by have := (qdrop_sub s.qs a.session).length_le; omega, ?_⟩
    · have hc : (takeL s.c s.cars n a.src).length = s.cars.length := takeL_len _ _ _ _
      show 0 ≤ x.car ∧ x.car < ((takeL s.c s.cars n a.src).length : Int)
      rw [hc]
      rcases putLs_mem (show x ∈ putLs s.c s.ls (grantL s a n) from hx) with hx | rfl
      · exact g2 x hx
      · exact hin
    · show (putLs s.c s.ls (grantL s a n)).length ≤ m + 1
      unfold putLs
      split
      · simp only [List.length_append, List.length_cons, List.length_nil]; omega
      · omega
theorem binv_tick {m : Nat} {s : Lw.Cor} (h : BInv m s) : BInv (m + 1) (quietK (tickK s)) := by
  obtain ⟨h0, h1, h2, h3, h4, h5⟩ := h
  have hgt := gInv_tick s.ws h1
  have htw := tickW_len (c := s.c) s.ws (gInv_mild h1)
  have hcl : (tickL s.c s.cars s.ws).length = s.cars.length := by have := hgt.1; have := h1.1; omega
  have hb : BInv m (stepK s) := ⟨h0, hgt, fun x hx => ⟨(h2 x hx).1, by show x.car < ((tickL s.c s.cars s.ws).length : Int); rw [hcl]; exact (h2 x hx).2⟩, show (tickW s.c s.cars s.ws).length ≤ m by omega, h4, h5⟩
  have hk := rides_keep s.ls (stepK s)
  have hi := rides_in s.ls (stepK s) hb.2.2.1 (fun x hx => hb.2.2.1 x hx)
  unfold tickK
  refine binv_grant ?_ (binv_keep hb hk.1 hi)
  have := hk.2
  have e : (stepK s).out = [] := h0
  rw [e] at this
  simp only [List.length_nil] at this
  omega
theorem binv_pre {m : Nat} {s : Lw.Cor} (h : BInv m s) (hm : m ≤ 10000) : s.out.length ≤ 1000 ∧ (CorB s ∧ GInv s.c s.cars) ∧ CarsIn s := ⟨by rw [h.1]; simp, ⟨binv_cor h hm, h.2.1⟩, h.2.2.1⟩
def CInv (s : Lw.Cor) : Prop := InvL s.c s.ls ∧ (s.qs.map fun a => a.session).Nodup
theorem invL_sets {c : Config} {ls : List Lw.Lease} (l : Lw.Lease) (h : InvL c ls) : InvL c (setLs c ls l) := by
  unfold setLs
  split
  · rename_i e
    refine invL_set h ?_
    unfold setE at e
    split at e
    · omega
    · split at e
      · omega
      · assumption
  · exact h
theorem invL_puts {c : Config} {ls : List Lw.Lease} (l : Lw.Lease) (h : InvL c ls) : InvL c (putLs c ls l) := by
  unfold putLs
  split
  · rename_i e
    unfold putE at e
    split at e
    · omega
    · split at e
      · omega
      · split at e
        · rename_i h1 h2
          exact invL_put h h1 h2
        · omega
  · exact h
theorem cinv_new (c : Config) : CInv (newK c) := ⟨invL_nil c, List.nodup_nil⟩
theorem cinv_end {s : Lw.Cor} (n : Int) (h : CInv s) : CInv (endK s n) := ⟨invL_sub h.1 (endLs_sub _ _), h.2⟩
theorem cinv_after {s : Lw.Cor} (l : Lw.Lease) (ms : List Lw.Msg) (v : Bool) (h : CInv s) : CInv (afterK s l ms v) := by
  unfold afterK
  split
  · exact cinv_end (s := sayK s l.ask.session ms) _ h
  · exact ⟨invL_sets l h.1, h.2⟩
theorem cinv_hear {s : Lw.Cor} (n : Int) (m : Lw.Msg) (h : CInv s) : CInv (hearK s n m) := by
  unfold hearK
  split
  · exact cinv_after _ _ _ h
  · exact h
theorem qput_nodup {r : Int} {qs : List Lw.Ask} {a : Lw.Ask} (h : (qs.map fun a => a.session).Nodup) : ((qputL r qs a).map fun a => a.session).Nodup := by
  unfold qputL
  split
  · rename_i e
    unfold qputE at e
    split at e
    · omega
    · rename_i hi
      rw [List.map_append, List.nodup_append]
      refine ⟨h, by simp, ?_⟩
      intro x hx y hy hxy
      rw [List.map_singleton, List.mem_singleton] at hy
      obtain ⟨b, hb, rfl⟩ := List.mem_map.1 hx
      obtain ⟨j, hj⟩ := List.getElem?_of_mem hb
      rcases idxG_spec (p := askP a.session) qs 0 with ⟨_, hn⟩ | ⟨j, x, e1, _, _⟩
      · have := hn j b hj
        unfold askP at this
        rw [beq_eq_false_iff_ne] at this
        exact this (hxy.trans hy)
      · omega
  · exact h
theorem cinv_ask {s : Lw.Cor} (a : Lw.Ask) (h : CInv s) : CInv (askK s a) := by
  unfold askK
  split
  · exact h
  · split
    · exact h
    · exact ⟨h.1, qput_nodup h.2⟩
theorem cinv_gone {s : Lw.Cor} (n : Int) (h : CInv s) : CInv (goneK s n) := ⟨invL_sub h.1 (endLs_sub _ _), h.2.sublist ((qdrop_sub _ _).map _)⟩
theorem cinv_ob1 {s : Lw.Cor} (l : Lw.Lease) (h : CInv s) : CInv (ob1 s l).1 := by
  unfold ob1
  split
  · exact cinv_hear (s := loadK s l.car l.ask.mass) _ _ h
  · split
    · exact cinv_hear (s := loadK s l.car 0) _ _ h
    · exact h
theorem cinv_obF : ∀ (l : List Lw.Lease) (p : Lw.Cor × List Lw.Event), CInv p.1 → CInv (l.foldl obF p).1
  | [], p, h => h
  | x :: r, p, h => cinv_obF r (obF p x) (cinv_ob1 x h)
theorem cinv_do {s : Lw.Cor} (o : Lw.COp) (h : CInv s) : CInv (doK s o).1 := by
  unfold doK
  split
  · exact cinv_ask _ h
  split
  · exact cinv_hear _ _ h
  split
  · exact cinv_gone _ h
  split
  · exact h
  split
  · exact h
  split
  · exact h
  split
  · exact h
  split
  · exact h
  split
  · exact cinv_obF s.ls (s, []) h
  · exact h
theorem cinv_rides : ∀ (l : List Lw.Lease) (s : Lw.Cor), CInv s → CInv (ridesK s l)
  | [], s, h => h
  | x :: r, s, h => cinv_rides r (roundK s x) (cinv_after _ _ _ h)
theorem cinv_grant {s : Lw.Cor} (h : CInv s) : CInv (grantK s) := by
  unfold grantK
  split
  · exact h
  split
  · exact h
  split
  · exact h
  · exact ⟨invL_puts _ h.1, h.2.sublist ((qdrop_sub _ _).map _)⟩
theorem cinv_tick {s : Lw.Cor} (h : CInv s) : CInv (quietK (tickK s)) := cinv_grant (cinv_rides s.ls (stepK s) h)
theorem cut_filter {α : Type} (f : α → Int) {ls : List α} (n : Int) (h : (ls.map f).Nodup) : (if idxG (fun x => f x == n) ls 0 < 0 then ls else cutL ls (idxG (fun x => f x == n) ls 0) (idxG (fun x => f x == n) ls 0 + 1)) = ls.filter fun x => f x != n := by
  rcases idxG_spec (p := fun x => f x == n) ls 0 with ⟨e, hn⟩ | ⟨j, x, e, hx, hp⟩
  · rw [e, if_pos (by decide)]
    symm
    rw [List.filter_eq_self]
    intro a ha
    obtain ⟨i, hi⟩ := List.getElem?_of_mem ha
    have := hn i a hi
    simpa using this
  · rw [e, if_neg (by omega)]
    have hj : j < ls.length := by
      rcases Nat.lt_or_ge j ls.length with hj | hj
      · exact hj
      · rw [List.getElem?_eq_none hj] at hx; cases hx
    have hxe : ls[j] = x := by rw [List.getElem?_eq_getElem hj] at hx; exact Option.some.inj hx
    have hfx : f x = n := by simpa using hp
    have hsplit : ls = ls.take j ++ x :: ls.drop (j + 1) := by rw [← hxe, ← List.drop_eq_getElem_cons hj, List.take_append_drop]
    unfold cutL
    rw [show ((0 : Int) + (j : Int)).toNat = j by omega, show ((0 : Int) + (j : Int) + 1).toNat = j + 1 by omega]
    conv => rhs; rw [hsplit]
    rw [List.filter_append, List.filter_cons, if_neg (by simp [hfx])]
    congr 1
    · symm
      rw [List.filter_eq_self]
      intro a ha
      obtain ⟨i, hi⟩ := List.getElem?_of_mem ha
      rw [List.getElem?_take] at hi
      split at hi
      · rename_i hij
        rw [bne_iff_ne]
        intro hfa
        have := nodup_inj h hi hx (hfa.trans hfx.symm)
        omega
      · cases hi
    · symm
      rw [List.filter_eq_self]
      intro a ha
      obtain ⟨i, hi⟩ := List.getElem?_of_mem ha
      rw [List.getElem?_drop] at hi
      rw [bne_iff_ne]
      intro hfa
      have := nodup_inj h hi hx (hfa.trans hfx.symm)
      omega
theorem end_filter {ls : List Lw.Lease} (n : Int) (h : (ls.map fun x => x.ask.session).Nodup) : endLs ls n = ls.filter fun x => x.ask.session != n := cut_filter (fun x : Lw.Lease => x.ask.session) n h
theorem drop_filter {qs : List Lw.Ask} (n : Int) (h : (qs.map fun x => x.session).Nodup) : qdropL qs n = qs.filter fun x => x.session != n := by
  rw [← cut_filter (fun x : Lw.Ask => x.session) n h]
  unfold qdropL
  by_cases hi : idxG (askP n) qs 0 ≥ 0
  · rw [if_pos hi, if_neg (show ¬ idxG (fun x : Lw.Ask => x.session == n) qs 0 < 0 from by have : idxG (fun x : Lw.Ask => x.session == n) qs 0 = idxG (askP n) qs 0 := rfl; omega)]; rfl
  · rw [if_neg hi, if_pos (show idxG (fun x : Lw.Ask => x.session == n) qs 0 < 0 from by have : idxG (fun x : Lw.Ask => x.session == n) qs 0 = idxG (askP n) qs 0 := rfl; omega)]
theorem filt_step {α : Type} (p : α → Bool) {l : List α} {i : Nat} (h : i < l.length) (z : α) : (l.take (i + 1)).filter p = (l.take i).filter p ++ (bif p (l.getD i z) then [l.getD i z] else []) := by
  rw [List.take_add_one, List.getElem?_eq_getElem h, List.getD_eq_getElem?_getD, List.getElem?_eq_getElem h, Option.toList_some, Option.getD_some, List.filter_append]
  congr 1
theorem filt_len {α : Type} (p : α → Bool) (l : List α) (i : Nat) : ((l.take i).filter p).length ≤ l.length := Nat.le_trans (List.length_filter_le _ _) (by rw [List.length_take]; exact Nat.min_le_right _ _)
theorem h63 : Holds Tryz.prog eid 63 (s63) := by
  refine hold tb153_ok Tryz.func63 (by kernel_rfl) ?_ (by kernel_rfl)
  intro xs M t h
  unfold s63 at h
  split at h
  case h_2 => cases h
  cases h
  refine ⟨fun l h => (nomatch h), ?_⟩
  intro hp
  rw [v63_vc]
  exact ends_v rfl rfl
theorem tb154_ok : GamOk Tryz.prog eid (gam tb154) := gam_cons h63 tb153_ok
theorem h17 : Holds Tryz.prog eid 17 (s17) := by
  refine hold tb154_ok Tryz.func17 (by kernel_rfl) ?_ (by kernel_rfl)
  intro xs M t h
  unfold s17 at h
  split at h
  case h_2 => cases h
  cases h
  refine ⟨fun l h => (nomatch h), ?_⟩
  intro hp
  rw [v17_vc]
  have b0 := binv_new conf21
  have b1 := binv_ask ⟨1, 0, 1, 2, 50⟩ b0
  have b2 := binv_tick b1
  exact ⟨⟨⟨rfl, rfl⟩, binv_out b0, binv_cor b0 (by omega)⟩, ⟨⟨rfl, rfl⟩, binv_pre b1 (by omega)⟩, ⟨⟨rfl, rfl⟩, binv_cor b2 (by omega)⟩, by decide +kernel, by decide +kernel, fun _ => by decide +kernel, ⟨⟨rfl, rfl⟩, binv_cor b2 (by omega)⟩, ends_pl (congrArg PC.bool (by decide +kernel))⟩
theorem tb155_ok : GamOk Tryz.prog eid (gam tb155) := gam_cons h17 tb154_ok
theorem h35 : Holds Tryz.prog eid 35 (obeysKS) := by
  refine hold tb155_ok Tryz.func35 (by kernel_rfl) ?_ (by kernel_rfl)
  intro xs M t h
  unfold obeysKS at h
  split at h
  · obtain ⟨s, c1, c3, e1, rfl⟩ := corL_eq h
    subst e1
    refine ⟨updL rfl, ?_⟩
    intro hp
    obtain ⟨⟨h1, h3⟩, hp⟩ := (hp : (c1 = s.c ∧ c3 = s.c) ∧ BInv 10000 s)
    subst h1; subst h3
    rw [v35_vc]
    have hbig : bigRow = 1073741824 := rfl
    have hmx := maxLen_eq
    have hls := hp.2.2.2.2.2
    refine ⟨⟨⟨rfl, rfl⟩, binv_cor hp (Nat.le_refl _)⟩, ?_⟩
    refine loopVC_selD (S := (Lw.Cor × List Lw.Event) × Int) v35b_m (fun t => v35b_fr t.1.1 t.1.2 s.ls t.2) (fun t => v35b_mem t.1.1 t.1.2 s.ls t.2) (fun t => (s.ls.length - t.2).toNat) (fun t => (0 ≤ t.2 ∧ t.2 ≤ s.ls.length) ∧ t.1 = obN s (s.ls.take t.2.toNat)) ⟨[.slot 3 .event], [some 0, some 1, some 2, some 3, none, some 5, none, none, none, some 4, some 6, some 7, some 8, some 9, some 10], ((s, []), 0), ⟨⟨by simp, by simp⟩, by simp [obN]⟩, _, rfl, rfl, rfl, rfl⟩ ?_
    rintro ⟨⟨t, o⟩, i⟩ ⟨⟨h0, h1⟩, h2⟩
    simp only at h0 h1 h2
    refine (v35b_vc t o s.ls i _ _).mpr ?_
    have hb := binv_obF (m := 10000) (s.ls.take i.toNat) (s, []) hp
    rw [show (s.ls.take i.toNat).foldl obF (s, []) = (t, o) from h2.symm, List.length_take] at hb
    obtain ⟨hb, hol⟩ := hb
    have hmin := Nat.min_le_right i.toNat s.ls.length
    have hol : o.length ≤ 10000 := by simp only [List.length_nil] at hol; omega
    have hi1 : (i + 1).toNat = i.toNat + 1 := by omega
    by_cases hi : i < s.ls.length
    · have hst := ob_take s (l := s.ls) (i := i.toNat) (by omega) (RTy.zero .lease)
      rw [← h2, ← hi1] at hst
      rw [wrap_id (n := i + 1) (by omega) (by omega)]
      generalize s.ls.getD i.toNat (RTy.zero .lease) = l at *
      refine cnd_iff.2 ⟨fun _ => ⟨⟨h0, hi⟩, cnd_iff.2 ⟨fun hp2 => ?_, fun hp2 => cnd_iff.2 ⟨fun hp4 => ?_, fun hp4 => ?_⟩⟩⟩, fun h => absurd hi (of_decide_eq_false h)⟩
      · have hl : BInv 10000 (loadK t l.car l.ask.mass) := binv_cars hb (gInv_load l.car l.ask.mass hb.2.1)
        have e : ob1 t l = saysK (hearK (loadK t l.car l.ask.mass) l.ask.session ⟨9, 0, 0, 0⟩) := by unfold ob1; rw [if_pos (beq_iff_eq.1 hp2)]
        have hst : obN s (s.ls.take (i + 1).toNat) = (quietK (hearK (loadK t l.car l.ask.mass) l.ask.session ⟨9, 0, 0, 0⟩), o ++ (hearK (loadK t l.car l.ask.mass) l.ask.session ⟨9, 0, 0, 0⟩).out) := by rw [hst]; unfold obF; rw [e]; rfl
        refine ⟨⟨⟨rfl, rfl⟩, trivial⟩, ⟨h0, hi⟩, ⟨h0, hi⟩, ⟨h0, hi⟩, ⟨⟨rfl, rfl⟩, ⟨binv_out hl, binv_cor hl (Nat.le_refl _)⟩, fun hg => hl.2.2.1 _ (getL_mem hg)⟩, ?_, [], [some 0, some 1, some 2, some 3, none, some 5, none, none, none, some 15, some 16, some 17, some 18, some 13, some 20], ((quietK (hearK (loadK t l.car l.ask.mass) l.ask.session ⟨9, 0, 0, 0⟩), o ++ (hearK (loadK t l.car l.ask.mass) l.ask.session ⟨9, 0, 0, 0⟩).out), i + 1), ⟨⟨⟨by simp only; omega, by simp only; omega⟩, hst.symm⟩, by simp only; omega⟩, _, rfl, rfl, rfl, rfl⟩
        have := (hear_keep (loadK t l.car l.ask.mass) l.ask.session ⟨9, 0, 0, 0⟩).2
        rw [hl.1, List.length_nil] at this
        show o.length + (hearK (loadK t l.car l.ask.mass) l.ask.session ⟨9, 0, 0, 0⟩).out.length ≤ bigRow
        omega
      · have hl : BInv 10000 (loadK t l.car 0) := binv_cars hb (gInv_load l.car 0 hb.2.1)
        have e : ob1 t l = saysK (hearK (loadK t l.car 0) l.ask.session ⟨13, 0, 0, 0⟩) := by unfold ob1; rw [if_neg (beq_eq_false_iff_ne.1 hp2), if_pos (beq_iff_eq.1 hp4)]
        have hst : obN s (s.ls.take (i + 1).toNat) = (quietK (hearK (loadK t l.car 0) l.ask.session ⟨13, 0, 0, 0⟩), o ++ (hearK (loadK t l.car 0) l.ask.session ⟨13, 0, 0, 0⟩).out) := by rw [hst]; unfold obF; rw [e]; rfl
        refine ⟨⟨⟨rfl, rfl⟩, trivial⟩, ⟨h0, hi⟩, ⟨h0, hi⟩, ⟨⟨rfl, rfl⟩, ⟨binv_out hl, binv_cor hl (Nat.le_refl _)⟩, fun hg => hl.2.2.1 _ (getL_mem hg)⟩, ?_, [], [some 0, some 1, some 2, some 3, none, some 5, none, none, none, some 15, some 16, some 17, some 18, some 13, some 20], ((quietK (hearK (loadK t l.car 0) l.ask.session ⟨13, 0, 0, 0⟩), o ++ (hearK (loadK t l.car 0) l.ask.session ⟨13, 0, 0, 0⟩).out), i + 1), ⟨⟨⟨by simp only; omega, by simp only; omega⟩, hst.symm⟩, by simp only; omega⟩, _, rfl, rfl, rfl, rfl⟩
        have := (hear_keep (loadK t l.car 0) l.ask.session ⟨13, 0, 0, 0⟩).2
        rw [hl.1, List.length_nil] at this
        show o.length + (hearK (loadK t l.car 0) l.ask.session ⟨13, 0, 0, 0⟩).out.length ≤ bigRow
        omega
      · have e : ob1 t l = (t, []) := by unfold ob1; rw [if_neg (beq_eq_false_iff_ne.1 hp2), if_neg (beq_eq_false_iff_ne.1 hp4)]
        have hst : obN s (s.ls.take (i + 1).toNat) = (t, o) := by rw [hst]; unfold obF; rw [e, List.append_nil]
        exact ⟨[], [some 0, some 1, some 2, some 3, none, some 5, none, none, none, some 9, some 10, some 11, some 12, some 13, some 14], ((t, o), i + 1), ⟨⟨⟨by simp only; omega, by simp only; omega⟩, hst.symm⟩, by simp only; omega⟩, _, rfl, rfl, rfl, rfl⟩
    · refine cnd_iff.2 ⟨fun h => absurd (of_decide_eq_true h) hi, fun _ => ?_⟩
      rw [List.take_of_length_le (by omega)] at h2
      have e : obeysK s = (t, o) := h2.symm
      rw [e]
      exact ends_selD [] [some 0, some 1, some 2, some 3, none, some 5, none, none, none, some 9, some 10, some 11, some 12, some 14] rfl rfl rfl rfl
  · cases h
theorem tb156_ok : GamOk Tryz.prog eid (gam tb156) := gam_cons h35 tb155_ok
theorem h12 : Holds Tryz.prog eid 12 (doKS) := by
  refine hold tb156_ok Tryz.func12 (by kernel_rfl) ?_ (by kernel_rfl)
  intro xs M t h
  unfold doKS at h
  split at h
  · rename_i k
    obtain ⟨o, ho, h1⟩ := Option.bind_eq_some_iff.1 h
    clear h
    cases Lw.COp.of_eq ho
    obtain ⟨s, c1, c3, e1, rfl⟩ := corL_eq h1
    subst e1
    refine ⟨updL rfl, ?_⟩
    intro hp
    obtain ⟨⟨h1, h3⟩, hp⟩ := (hp : (c1 = s.c ∧ c3 = s.c) ∧ BInv 10000 s)
    subst h1; subst h3
    rw [v12_vc]
    have hbig : bigRow = 1073741824 := rfl
    have hmx := maxLen_eq
    have hcor := binv_cor hp (Nat.le_refl _)
    have hout := binv_out hp
    have hw := hp.2.2.2.1
    refine cnd_iff.2 ⟨fun h1 => ?_, fun h1 => ?_⟩
    · have e : doK s o = saysK (askK s o.ask) := by unfold doK; rw [if_pos (beq_iff_eq.1 h1)]
      rw [e]
      exact ⟨⟨⟨rfl, rfl⟩, hout, hcor⟩, ends_selD [] [some 0, some 1, some 2, some 3, none, some 5, none, none, none, some 10, some 11, some 12, some 13, some 14] rfl rfl rfl rfl⟩
    refine cnd_iff.2 ⟨fun h2 => ?_, fun h2 => ?_⟩
    · have e : doK s o = saysK (hearK s o.ask.session o.msg) := by unfold doK; rw [if_neg (beq_eq_false_iff_ne.1 h1), if_pos (beq_iff_eq.1 h2)]
      rw [e]
      exact ⟨⟨⟨rfl, rfl⟩, ⟨hout, hcor⟩, fun hg => hp.2.2.1 _ (getL_mem hg)⟩, ends_selD [] [some 0, some 1, some 2, some 3, none, some 5, none, none, none, some 10, some 11, some 12, some 13, some 14] rfl rfl rfl rfl⟩
    refine cnd_iff.2 ⟨fun h3 => ?_, fun h3 => ?_⟩
    · have e : doK s o = (goneK s o.ask.session, []) := by unfold doK; rw [if_neg (beq_eq_false_iff_ne.1 h1), if_neg (beq_eq_false_iff_ne.1 h2), if_pos (beq_iff_eq.1 h3)]
      rw [e]
      exact ⟨⟨⟨rfl, rfl⟩, hcor⟩, ends_selD [.slot 0 .event] [some 0, some 1, some 2, some 3, none, some 5, none, none, none, some 10, some 11, some 12, some 13, some 14] rfl rfl rfl rfl⟩
    refine cnd_iff.2 ⟨fun h4 => ?_, fun h4 => ?_⟩
    · have e : doK s o = (setCW s s.cars (hallW s.c s.ws s.now o.a o.b), []) := by unfold doK; rw [if_neg (beq_eq_false_iff_ne.1 h1), if_neg (beq_eq_false_iff_ne.1 h2), if_neg (beq_eq_false_iff_ne.1 h3), if_pos (beq_iff_eq.1 h4)]
      rw [e]
      exact ⟨⟨⟨rfl, rfl⟩, trivial⟩, by omega, ends_selD [.slot 0 .event] [some 0, some 1, some 2, some 3, none, some 5, none, none, none, some 4, some 10, some 7, some 8, some 11] rfl rfl rfl rfl⟩
    refine cnd_iff.2 ⟨fun h5 => ?_, fun h5 => ?_⟩
    · have e : doK s o = (setC s (pressL s.c s.cars o.a o.b), []) := by unfold doK; rw [if_neg (beq_eq_false_iff_ne.1 h1), if_neg (beq_eq_false_iff_ne.1 h2), if_neg (beq_eq_false_iff_ne.1 h3), if_neg (beq_eq_false_iff_ne.1 h4), if_pos (beq_iff_eq.1 h5)]
      rw [e]
      exact ⟨⟨⟨rfl, rfl⟩, trivial⟩, ends_selD [.slot 0 .event] [some 0, some 1, some 2, some 3, none, some 5, none, none, none, some 4, some 6, some 7, some 8, some 10] rfl rfl rfl rfl⟩
    refine cnd_iff.2 ⟨fun h6 => ?_, fun h6 => ?_⟩
    · have e : doK s o = (setC s (loadL s.c s.cars o.a o.b), []) := by unfold doK; rw [if_neg (beq_eq_false_iff_ne.1 h1), if_neg (beq_eq_false_iff_ne.1 h2), if_neg (beq_eq_false_iff_ne.1 h3), if_neg (beq_eq_false_iff_ne.1 h4), if_neg (beq_eq_false_iff_ne.1 h5), if_pos (beq_iff_eq.1 h6)]
      rw [e]
      exact ⟨⟨⟨rfl, rfl⟩, trivial⟩, ends_selD [.slot 0 .event] [some 0, some 1, some 2, some 3, none, some 5, none, none, none, some 4, some 6, some 7, some 8, some 10] rfl rfl rfl rfl⟩
    refine cnd_iff.2 ⟨fun h7 => ?_, fun h7 => ?_⟩
    · have e : doK s o = (setC s (curtL s.c s.cars o.a (o.b == 1)), []) := by unfold doK; rw [if_neg (beq_eq_false_iff_ne.1 h1), if_neg (beq_eq_false_iff_ne.1 h2), if_neg (beq_eq_false_iff_ne.1 h3), if_neg (beq_eq_false_iff_ne.1 h4), if_neg (beq_eq_false_iff_ne.1 h5), if_neg (beq_eq_false_iff_ne.1 h6), if_pos (beq_iff_eq.1 h7)]
      rw [e]
      exact ⟨⟨⟨rfl, rfl⟩, trivial⟩, ends_selD [.slot 0 .event] [some 0, some 1, some 2, some 3, none, some 5, none, none, none, some 4, some 6, some 7, some 8, some 10] rfl rfl rfl rfl⟩
    refine cnd_iff.2 ⟨fun h8 => ?_, fun h8 => ?_⟩
    · have e : doK s o = (setCW s (faultL s.c s.cars o.a (o.b == 1)) (faultW s.c s.cars s.ws o.a (o.b == 1)), []) := by unfold doK; rw [if_neg (beq_eq_false_iff_ne.1 h1), if_neg (beq_eq_false_iff_ne.1 h2), if_neg (beq_eq_false_iff_ne.1 h3), if_neg (beq_eq_false_iff_ne.1 h4), if_neg (beq_eq_false_iff_ne.1 h5), if_neg (beq_eq_false_iff_ne.1 h6), if_neg (beq_eq_false_iff_ne.1 h7), if_pos (beq_iff_eq.1 h8)]
      rw [e]
      exact ⟨⟨⟨rfl, rfl⟩, trivial⟩, by omega, ends_selD [.slot 0 .event] [some 0, some 1, some 2, some 3, none, some 5, none, none, none, some 4, some 6, some 7, some 8, some 10] rfl rfl rfl rfl⟩
    refine cnd_iff.2 ⟨fun h10 => ?_, fun h10 => ?_⟩
    · have e : doK s o = obeysK s := by unfold doK; rw [if_neg (beq_eq_false_iff_ne.1 h1), if_neg (beq_eq_false_iff_ne.1 h2), if_neg (beq_eq_false_iff_ne.1 h3), if_neg (beq_eq_false_iff_ne.1 h4), if_neg (beq_eq_false_iff_ne.1 h5), if_neg (beq_eq_false_iff_ne.1 h6), if_neg (beq_eq_false_iff_ne.1 h7), if_neg (beq_eq_false_iff_ne.1 h8), if_pos (beq_iff_eq.1 h10)]
      rw [e]
      exact ⟨⟨⟨rfl, rfl⟩, hp⟩, ends_selD [] [some 0, some 1, some 2, some 3, none, some 5, none, none, none, some 10, some 11, some 12, some 13, some 14] rfl rfl rfl rfl⟩
    have e : doK s o = (s, []) := by unfold doK; rw [if_neg (beq_eq_false_iff_ne.1 h1), if_neg (beq_eq_false_iff_ne.1 h2), if_neg (beq_eq_false_iff_ne.1 h3), if_neg (beq_eq_false_iff_ne.1 h4), if_neg (beq_eq_false_iff_ne.1 h5), if_neg (beq_eq_false_iff_ne.1 h6), if_neg (beq_eq_false_iff_ne.1 h7), if_neg (beq_eq_false_iff_ne.1 h8), if_neg (beq_eq_false_iff_ne.1 h10)]
    rw [e]
    exact ends_selD [.slot 0 .event] [some 0, some 1, some 2, some 3, none, some 5, none, none, none, some 4, some 6, some 7, some 8, some 10] rfl rfl rfl rfl
  · cases h
theorem tb157_ok : GamOk Tryz.prog eid (gam tb157) := gam_cons h12 tb156_ok
end Go.Proofs.YtjgmkpidiaojkaaGreat
