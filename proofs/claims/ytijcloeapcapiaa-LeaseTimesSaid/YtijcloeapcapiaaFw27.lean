/- How many bits are set: halving three times, and the bytes' sum. -/
import Derived.Test.YtijcloeapcapiaaFw26
set_option linter.unusedVariables false
namespace Lw
open Go
theorem land_split {a b m n : Nat} (hb : b < 256) (hn : n < 256) : (256 * a + b) &&& (256 * m + n) = 256 * (a &&& m) + (b &&& n) := by
  have hbn : (b &&& n) < 256 := Nat.lt_of_le_of_lt Nat.and_le_left hb
  apply Nat.eq_of_testBit_eq
  intro j
  rw [Nat.testBit_and, show (256 : Nat) = 2 ^ 8 from rfl, Nat.testBit_two_pow_mul_add _ (by simpa using hb), Nat.testBit_two_pow_mul_add _ (by simpa using hn), Nat.testBit_two_pow_mul_add _ (by simpa using hbn)]
  split <;> rw [Nat.testBit_and]
/-- r times the same byte. -/
def rep (m : Nat) : Nat → Nat
  | 0 => 0
  | r + 1 => 256 * rep m r + m
/-- Byte by byte. -/
def byt (g : Nat → Nat) : Nat → Nat → Nat
  | 0, _ => 0
  | r + 1, x => 256 * byt g r (x / 256) + g (x % 256)
def g1 (b : Nat) : Nat := (b / 2 &&& 85) + (b &&& 85)
def g2 (b : Nat) : Nat := (b / 4 &&& 51) + (b &&& 51)
def g3 (b : Nat) : Nat := (b / 16 + b) &&& 15
def inB (h : Nat → Bool) : Nat → Nat → Bool
  | 0, _ => true
  | r + 1, x => h (x % 256) && inB h r (x / 256)
theorem byt_succ (g : Nat → Nat) (r x : Nat) : byt g (r + 1) x = 256 * byt g r (x / 256) + g (x % 256) := rfl
theorem inB_succ (h : Nat → Bool) (r x : Nat) : inB h (r + 1) x = (h (x % 256) && inB h r (x / 256)) := rfl
theorem step1 : ∀ (r x : Nat), (x / 2 &&& rep 85 r) + (x &&& rep 85 r) = byt g1 r x
  | 0, x => by simp [rep, byt]
  | r + 1, x => by
    have hx := Nat.div_add_mod x 256
    have e : ∀ c : Fin 2, ∀ b : Fin 256, (128 * c.val + b.val / 2) &&& 85 = (b.val / 2) &&& 85 := by decide +kernel
    have h1 : x / 2 = 256 * (x / 256 / 2) + (128 * (x / 256 % 2) + x % 256 / 2) := by omega
    have h2 : x &&& rep 85 (r + 1) = 256 * (x / 256 &&& rep 85 r) + (x % 256 &&& 85) := by
      have := land_split (a := x / 256) (b := x % 256) (m := rep 85 r) (n := 85) (Nat.mod_lt _ (by decide)) (by decide)
      rw [hx] at this; exact this
    have h3 : x / 2 &&& rep 85 (r + 1) = 256 * (x / 256 / 2 &&& rep 85 r) + (x % 256 / 2 &&& 85) := by
      rw [h1]
      have := land_split (a := x / 256 / 2) (b := 128 * (x / 256 % 2) + x % 256 / 2) (m := rep 85 r) (n := 85) (by omega) (by decide)
      rw [show rep 85 (r + 1) = 256 * rep 85 r + 85 from rfl, this]
      have := e ⟨x / 256 % 2, Nat.mod_lt _ (by decide)⟩ ⟨x % 256, Nat.mod_lt _ (by decide)⟩
      simp only at this
      rw [this]
    have ih := step1 r (x / 256)
    rw [h2, h3]
    unfold byt
    rw [← ih]
    unfold g1
    omega
theorem step2 : ∀ (r x : Nat), (x / 4 &&& rep 51 r) + (x &&& rep 51 r) = byt g2 r x
  | 0, x => by simp [rep, byt]
  | r + 1, x => by
    have hx := Nat.div_add_mod x 256
    have e : ∀ c : Fin 4, ∀ b : Fin 256, (64 * c.val + b.val / 4) &&& 51 = (b.val / 4) &&& 51 := by decide +kernel
    have h1 : x / 4 = 256 * (x / 256 / 4) + (64 * (x / 256 % 4) + x % 256 / 4) := by omega
    have h2 : x &&& rep 51 (r + 1) = 256 * (x / 256 &&& rep 51 r) + (x % 256 &&& 51) := by
      have := land_split (a := x / 256) (b := x % 256) (m := rep 51 r) (n := 51) (Nat.mod_lt _ (by decide)) (by decide)
      rw [hx] at this; exact this
    have h3 : x / 4 &&& rep 51 (r + 1) = 256 * (x / 256 / 4 &&& rep 51 r) + (x % 256 / 4 &&& 51) := by
      rw [h1]
      have := land_split (a := x / 256 / 4) (b := 64 * (x / 256 % 4) + x % 256 / 4) (m := rep 51 r) (n := 51) (by omega) (by decide)
      rw [show rep 51 (r + 1) = 256 * rep 51 r + 51 from rfl, this]
      have := e ⟨x / 256 % 4, Nat.mod_lt _ (by decide)⟩ ⟨x % 256, Nat.mod_lt _ (by decide)⟩
      simp only at this
      rw [this]
    have ih := step2 r (x / 256)
    rw [h2, h3]
    unfold byt
    rw [← ih]
    unfold g2
    omega
def nib (b : Nat) : Bool := Nat.ble (b % 16) 4 && Nat.ble (b / 16) 4
theorem step3 : ∀ (r x : Nat), inB nib r x = true → x < 256 ^ r → (x / 16 + x) &&& rep 15 r = byt g3 r x
  | 0, x, _, hx => by
    have : x = 0 := by simpa using hx
    subst this; simp [rep, byt]
  | r + 1, x, h, hlt => by
    rw [inB_succ, Bool.and_eq_true] at h
    obtain ⟨hn, hr⟩ := h
    have hx := Nat.div_add_mod x 256
    unfold nib at hn
    rw [Bool.and_eq_true, Nat.ble_eq, Nat.ble_eq] at hn
    have hq : x / 256 % 16 ≤ 4 := by
      cases r with
      | zero =>
        have : x < 256 := by simpa using hlt
        omega
      | succ r =>
        rw [inB_succ] at hr
        unfold nib at hr
        simp only [Bool.and_eq_true, Nat.ble_eq] at hr
        omega
    have e : ∀ c : Fin 5, ∀ b : Fin 256, b.val % 16 ≤ 4 → b.val / 16 ≤ 4 → (16 * c.val + b.val / 16 + b.val) &&& 15 = (b.val / 16 + b.val) &&& 15 := by decide +kernel
    have h1 : x / 16 + x = 256 * (x / 256 / 16 + x / 256) + (16 * (x / 256 % 16) + x % 256 / 16 + x % 256) := by omega
    have ih := step3 r (x / 256) hr (by rw [Nat.pow_succ] at hlt; omega)
    rw [h1, show rep 15 (r + 1) = 256 * rep 15 r + 15 from rfl, land_split (by omega) (by decide), ih]
    rw [byt_succ]
    have := e ⟨x / 256 % 16, by omega⟩ ⟨x % 256, Nat.mod_lt _ (by decide)⟩ hn.1 hn.2
    simp only at this
    rw [this]; rfl
/-- How many of the first n bits are set. -/
def cnt : Nat → Nat → Nat
  | 0, _ => 0
  | n + 1, x => x % 2 + cnt n (x / 2)
theorem cnt_succ (n x : Nat) : cnt (n + 1) x = x % 2 + cnt n (x / 2) := rfl
theorem cnt_add : ∀ (a b x : Nat), cnt (a + b) x = cnt a x + cnt b (x / 2 ^ a)
  | 0, b, x => by simp [cnt]
  | a + 1, b, x => by
    rw [show a + 1 + b = (a + b) + 1 by omega]
    rw [cnt_succ, cnt_succ, cnt_add a b (x / 2), Nat.div_div_eq_div_mul, ← Nat.pow_succ', Nat.succ_eq_add_one]
    omega
theorem cnt_mod : ∀ (n x : Nat), cnt n (x % 2 ^ n) = cnt n x
  | 0, x => rfl
  | n + 1, x => by
    rw [cnt_succ, cnt_succ, show x % 2 ^ (n + 1) / 2 = x / 2 % 2 ^ n by rw [Nat.pow_succ', Nat.mod_mul_right_div_self], cnt_mod n, Nat.pow_succ', Nat.mod_mul_right_mod]
theorem cnt_le : ∀ (n x : Nat), cnt n x ≤ n
  | 0, x => Nat.le_refl _
  | n + 1, x => by
    have := cnt_le n (x / 2)
    rw [cnt_succ]
    omega
theorem byt_mod {g : Nat → Nat} (hg : ∀ b : Fin 256, g b.val < 256) (r x : Nat) : byt g (r + 1) x % 256 = g (x % 256) ∧ byt g (r + 1) x / 256 = byt g r (x / 256) := by
  have := hg ⟨x % 256, Nat.mod_lt _ (by decide)⟩
  simp only at this
  rw [byt_succ]
  omega
theorem byt_byt {g h : Nat → Nat} (hg : ∀ b : Fin 256, g b.val < 256) : ∀ (r x : Nat), byt h r (byt g r x) = byt (fun b => h (g b)) r x
  | 0, x => rfl
  | r + 1, x => by
    have := byt_mod hg r x
    rw [byt_succ h, this.1, this.2, byt_byt hg r]; rfl
theorem byt_congr {g h : Nat → Nat} (hg : ∀ b : Fin 256, g b.val = h b.val) : ∀ (r x : Nat), byt g r x = byt h r x
  | 0, x => rfl
  | r + 1, x => by
    have := hg ⟨x % 256, Nat.mod_lt _ (by decide)⟩
    simp only at this
    rw [byt_succ, byt_succ, byt_congr hg r, this]
theorem byt_lt {g : Nat → Nat} (hg : ∀ b : Fin 256, g b.val < 256) : ∀ (r x : Nat), byt g r x < 256 ^ r
  | 0, x => by simp [byt]
  | r + 1, x => by
    have := byt_lt hg r (x / 256)
    have h := hg ⟨x % 256, Nat.mod_lt _ (by decide)⟩
    simp only at h
    rw [byt_succ, Nat.pow_succ]; omega
theorem inB_byt {g : Nat → Nat} {p : Nat → Bool} (hg : ∀ b : Fin 256, g b.val < 256) (hp : ∀ b : Fin 256, p (g b.val) = true) : ∀ (r x : Nat), inB p r (byt g r x) = true
  | 0, x => rfl
  | r + 1, x => by
    have := byt_mod hg r x
    have h := hp ⟨x % 256, Nat.mod_lt _ (by decide)⟩
    simp only at h
    rw [inB_succ, this.1, this.2, h, inB_byt hg hp r]; rfl
theorem bytes_pop : ∀ b : Fin 256, g3 (g2 (g1 b.val)) = cnt 8 b.val := by decide +kernel
theorem sumA {t c t1 : Nat} (h : t = c + 256 * t1) (k : c < 256) : t / 256 = t1 := by omega
theorem sumB {u a b u2 : Nat} (h : u = a + 256 * b + 65536 * u2) (k : a < 256) (l : b < 256) : u / 65536 = u2 := by omega
theorem sumC {v a b c d v4 : Nat} (h : v = a + 256 * b + 65536 * c + 16777216 * d + 4294967296 * v4) (k : a < 256) (l : b < 256) (m : c < 256) (n : d < 256) : v / 4294967296 = v4 := by omega
theorem stepU {t a t1 b t2 : Nat} (h : t = a + 256 * t1) (k : t1 = b + 256 * t2) : t + t1 = (a + b) + 256 * (t1 + t2) := by omega
theorem sumD {w a b c d s x5 : Nat} (h : w = (a + 256 * b + 65536 * c + 16777216 * d + 4294967296 * (s + 256 * x5)) + (s + 256 * x5)) (k : a + s < 128) : w % 128 = a + s := by omega
theorem L1 (a b c : Nat) : a + 256 * (b + 256 * c) = a + 256 * b + 65536 * c := by omega
theorem L2 (a b c d e : Nat) : a + 256 * (b + 256 * (c + 256 * (d + 256 * e))) = a + 256 * b + 65536 * c + 16777216 * d + 4294967296 * e := by omega
theorem L3 (a b c d e f g h i j : Nat) : (a + 256 * b + 65536 * c + 16777216 * d + 4294967296 * e) + (f + 256 * g + 65536 * h + 16777216 * i + 4294967296 * j) = (a + f) + 256 * (b + g) + 65536 * (c + h) + 16777216 * (d + i) + 4294967296 * (e + j) := by omega
theorem L4 (a b c d e f g h : Nat) : (a + b) + (c + d) + ((e + f) + (g + h)) = a + b + c + d + e + f + g + h := by omega
theorem L5 {v w t x : Nat} (h : x ≤ v) (k : v ≤ 4 * t) (l : w = v + x) : w ≤ 8 * t := by omega
theorem L6 (a b c d t : Nat) : (a + b + 256 * t) + (c + d + 256 * (b + d)) = (a + b) + (c + d) + 256 * (t + (b + d)) := by omega
theorem L7 {a b c d : Nat} (h : a ≤ 8) (k : b ≤ 8) (l : c ≤ 8) (m : d ≤ 8) : (a + b) + (c + d) < 256 := by omega
theorem L8 {a b c d e f g h : Nat} (k : a ≤ 8) (l : b ≤ 8) (m : c ≤ 8) (n : d ≤ 8) (o : e ≤ 8) (p : f ≤ 8) (q : g ≤ 8) (r : h ≤ 8) : ((a + b) + (c + d)) + ((e + f) + (g + h)) < 128 := by omega
theorem L9 (a b c d x : Nat) : (a + b + 256 * x) + (c + 256 * d) = (a + b) + c + 256 * (x + d) := by omega
theorem L10 {a b : Nat} (h : a ≤ 8) (k : b ≤ 8) : a + b < 256 := by omega
theorem L11 {a : Nat} (h : a ≤ 8) : a < 256 := by omega
theorem L12 (a b x c d t : Nat) (h : t = c + 256 * d) : (a + b + 256 * x) + (t + d) = ((a + b) + (c + d)) + 256 * (x + d) := by omega
theorem sum8 (c0 c1 c2 c3 c4 c5 c6 c7 : Nat) (b0 : c0 ≤ 8) (b1 : c1 ≤ 8) (b2 : c2 ≤ 8) (b3 : c3 ≤ 8) (b4 : c4 ≤ 8) (b5 : c5 ≤ 8) (b6 : c6 ≤ 8) (b7 : c7 ≤ 8) (t t1 t2 t3 t4 t5 t6 : Nat)
    (h0 : t = c0 + 256 * t1) (h1 : t1 = c1 + 256 * t2) (h2 : t2 = c2 + 256 * t3) (h3 : t3 = c3 + 256 * t4) (h4 : t4 = c4 + 256 * t5) (h5 : t5 = c5 + 256 * t6) (h6 : t6 = c6 + 256 * c7) :
    ∀ u v w, u = t + t / 256 → v = u + u / 65536 → w = v + v / 4294967296 → w % 128 = c0 + c1 + c2 + c3 + c4 + c5 + c6 + c7 ∧ u ≤ 2 * t ∧ v ≤ 4 * t ∧ w ≤ 8 * t := by
  have l0 : (c0 + c1) + (c2 + c3) < 256 := L7 b0 b1 b2 b3
  have l1 : (c1 + c2) + (c3 + c4) < 256 := L7 b1 b2 b3 b4
  have l2 : (c2 + c3) + (c4 + c5) < 256 := L7 b2 b3 b4 b5
  have l3 : (c3 + c4) + (c5 + c6) < 256 := L7 b3 b4 b5 b6
  have l4 : ((c0 + c1) + (c2 + c3)) + ((c4 + c5) + (c6 + c7)) < 128 := L8 b0 b1 b2 b3 b4 b5 b6 b7
  intro u v w hu hv hw
  have hu' : u = t + t1 := by rw [hu, sumA h0 (L11 b0)]
  have u0 := stepU h0 h1
  have u1 := stepU h1 h2
  have u2 := stepU h2 h3
  have u3 := stepU h3 h4
  have u4 := stepU h4 h5
  have u5 := stepU h5 h6
  have ul : u ≤ 2 * t := by clear u0 u1 u2 u3 u4 u5 hv hw h1 h2 h3 h4 h5 h6; omega
  have hv' : v = u + (t2 + t3) := by
    rw [hv]
    congr 1
    rw [hu', u0]
    refine sumB (a := c0 + c1) (b := c1 + c2) ?_ (L10 b0 b1) (L10 b1 b2)
    rw [u1, L1]
  have vl : v ≤ 4 * t := by clear u0 u1 u2 u3 u4 u5 hw hv h4 h5 h6; omega
  have e3 : t + t1 = (c0 + c1) + 256 * (c1 + c2) + 65536 * (c2 + c3) + 16777216 * (c3 + c4) + 4294967296 * (t4 + t5) := by
    rw [u0, u1, u2, u3, L2]
  have e4 : t2 + t3 = (c2 + c3) + 256 * (c3 + c4) + 65536 * (c4 + c5) + 16777216 * (c5 + c6) + 4294967296 * (t6 + c7) := by
    rw [u2, u3, u4, u5, L2]
  have hve : v = ((c0 + c1) + (c2 + c3)) + 256 * ((c1 + c2) + (c3 + c4)) + 65536 * ((c2 + c3) + (c4 + c5)) + 16777216 * ((c3 + c4) + (c5 + c6)) + 4294967296 * ((t4 + t5) + (t6 + c7)) := by
    rw [hv', hu', e3, e4, L3]
  have hd : v / 4294967296 = (t4 + t5) + (t6 + c7) := sumC hve l0 l1 l2 l3
  have hw' : w = v + ((t4 + t5) + (t6 + c7)) := by rw [hw, hd]
  have e5 : (t4 + t5) + (t6 + c7) = ((c4 + c5) + (c6 + c7)) + 256 * ((t5 + t6) + c7) := by
    rw [u4]
    have := h6
    exact L12 c4 c5 (t5 + t6) c6 c7 t6 h6
  have wl : w ≤ 8 * t := by
    have : v / 4294967296 ≤ v := Nat.div_le_self _ _
    exact L5 this vl hw
  refine ⟨?_, ul, vl, wl⟩
  rw [hve, e5] at hw'
  have := sumD hw' l4
  rw [this]; exact L4 _ _ _ _ _ _ _ _
/-- Three rounds of halving, and the bytes' sum. -/
theorem pop_rounds (x : Nat) (hx : x < 2 ^ 64) :
    let y := (x / 2 &&& rep 85 8) + (x &&& rep 85 8)
    let z := (y / 4 &&& rep 51 8) + (y &&& rep 51 8)
    let t := (z / 16 + z) &&& rep 15 8
    let u := t + t / 256
    let v := u + u / 65536
    let w := v + v / 4294967296
    w % 128 = cnt 64 x ∧ y < 2 ^ 64 ∧ z < 2 ^ 64 ∧ z / 16 + z < 2 ^ 64 ∧ u < 2 ^ 64 ∧ v < 2 ^ 64 ∧ w < 2 ^ 64 := by
  intro y z t u v w
  have q1 : ∀ b : Fin 256, g1 b.val < 256 := by decide +kernel
  have q2 : ∀ b : Fin 256, g2 b.val < 256 := by decide +kernel
  have q21 : ∀ b : Fin 256, g2 (g1 b.val) < 256 := by decide +kernel
  have q3 : ∀ b : Fin 256, nib (g2 (g1 b.val)) = true := by decide +kernel
  have hy : y = byt g1 8 x := step1 8 x
  have hz : z = byt (fun b => g2 (g1 b)) 8 x := by
    show (y / 4 &&& rep 51 8) + (y &&& rep 51 8) = _
    rw [step2 8 y, hy, byt_byt q1]
  have hzb : inB nib 8 z = true := by rw [hz]; exact inB_byt q21 q3 8 x
  have hzl : z < 256 ^ 8 := by rw [hz]; exact byt_lt q21 8 x
  have ht : t = byt (fun b => cnt 8 b) 8 x := by
    show (z / 16 + z) &&& rep 15 8 = _
    rw [step3 8 z hzb hzl, hz, byt_byt q21]
    exact byt_congr bytes_pop 8 x
  have hyl : y < 2 ^ 64 := by rw [hy]; exact byt_lt q1 8 x
  have hc : cnt 64 x = cnt 8 (x % 256) + cnt 8 (x / 256 % 256) + cnt 8 (x / 256 / 256 % 256) + cnt 8 (x / 256 / 256 / 256 % 256) + cnt 8 (x / 256 / 256 / 256 / 256 % 256) + cnt 8 (x / 256 / 256 / 256 / 256 / 256 % 256) + cnt 8 (x / 256 / 256 / 256 / 256 / 256 / 256 % 256) + cnt 8 (x / 256 / 256 / 256 / 256 / 256 / 256 / 256 % 256) := by
    have m : ∀ z, cnt 8 (z % 256) = cnt 8 z := fun z => cnt_mod 8 z
    have a : ∀ n z, cnt (8 + n) z = cnt 8 z + cnt n (z / 256) := fun n z => cnt_add 8 n z
    simp only [m]
    rw [show (64 : Nat) = 8 + (8 + (8 + (8 + (8 + (8 + (8 + 8)))))) from rfl, a, a, a, a, a, a, a]
    omega
  have hz16 : z / 16 + z < 2 ^ 64 := by
    simp only [inB_succ, Bool.and_eq_true] at hzb
    obtain ⟨_, _, _, _, _, _, _, h7, _⟩ := hzb
    unfold nib at h7
    simp only [Bool.and_eq_true, Nat.ble_eq] at h7
    omega
  have h0 : t = cnt 8 (x % 256) + 256 * byt (fun b => cnt 8 b) 7 (x / 256) := by
    rw [ht]; exact Nat.add_comm _ _
  have h1 : byt (fun b => cnt 8 b) 7 (x / 256) = cnt 8 (x / 256 % 256) + 256 * byt (fun b => cnt 8 b) 6 (x / 256 / 256) := by
    exact Nat.add_comm _ _
  have h2 : byt (fun b => cnt 8 b) 6 (x / 256 / 256) = cnt 8 (x / 256 / 256 % 256) + 256 * byt (fun b => cnt 8 b) 5 (x / 256 / 256 / 256) := by
    exact Nat.add_comm _ _
  have h3 : byt (fun b => cnt 8 b) 5 (x / 256 / 256 / 256) = cnt 8 (x / 256 / 256 / 256 % 256) + 256 * byt (fun b => cnt 8 b) 4 (x / 256 / 256 / 256 / 256) := by
    exact Nat.add_comm _ _
  have h4 : byt (fun b => cnt 8 b) 4 (x / 256 / 256 / 256 / 256) = cnt 8 (x / 256 / 256 / 256 / 256 % 256) + 256 * byt (fun b => cnt 8 b) 3 (x / 256 / 256 / 256 / 256 / 256) := by
    exact Nat.add_comm _ _
  have h5 : byt (fun b => cnt 8 b) 3 (x / 256 / 256 / 256 / 256 / 256) = cnt 8 (x / 256 / 256 / 256 / 256 / 256 % 256) + 256 * byt (fun b => cnt 8 b) 2 (x / 256 / 256 / 256 / 256 / 256 / 256) := by
    exact Nat.add_comm _ _
  have h6 : byt (fun b => cnt 8 b) 2 (x / 256 / 256 / 256 / 256 / 256 / 256) = cnt 8 (x / 256 / 256 / 256 / 256 / 256 / 256 % 256) + 256 * byt (fun b => cnt 8 b) 1 (x / 256 / 256 / 256 / 256 / 256 / 256 / 256) := by
    exact Nat.add_comm _ _
  have h7 : byt (fun b => cnt 8 b) 1 (x / 256 / 256 / 256 / 256 / 256 / 256 / 256) = cnt 8 (x / 256 / 256 / 256 / 256 / 256 / 256 / 256 % 256) := by
    exact Nat.zero_add _
  rw [h7] at h6
  have hs8 := sum8 _ _ _ _ _ _ _ _ (cnt_le 8 _) (cnt_le 8 _) (cnt_le 8 _) (cnt_le 8 _) (cnt_le 8 _) (cnt_le 8 _) (cnt_le 8 _) (cnt_le 8 _) t _ _ _ _ _ _ h0 h1 h2 h3 h4 h5 h6 u v w rfl rfl rfl
  have htl : t ≤ rep 15 8 := Nat.and_le_right
  have htl : t ≤ 1085102592571150095 := htl
  obtain ⟨k1, k2, k3, k4⟩ := hs8
  clear_value u v w t
  clear h0 h1 h2 h3 h4 h5 h6 h7 hzb ht hz hy
  exact ⟨by rw [k1, hc], hyl, hzl, hz16, by clear hc k1 k3 k4 hyl hzl hz16; omega, by clear hc k1 k2 k4 hyl hzl hz16; omega, by clear hc k1 k2 k3 hyl hzl hz16; omega⟩
theorem sh_nat (n j : Nat) (hj : j ≤ 64) : shI .u64 false (n : Int) (j : Int) = ((n / 2 ^ j : Nat) : Int) := by
  unfold shI
  rw [show min ((j : Int).toNat) (IntKind.u64.bits) = j by rw [Int.toNat_natCast]; exact Nat.min_eq_left hj]
  simp only [cond_false]
  rw [Int.fdiv_eq_ediv_of_nonneg _ (by exact Int.le_of_lt (Int.pow_pos (by decide)))]
  norm_cast
theorem and_nat (m n : Nat) (hm : m < 18446744073709551616) (hn : n < 18446744073709551616) : bitsI .and .u64 (m : Int) (n : Int) = ((m &&& n : Nat) : Int) := by
  have hmn : (m &&& n) < 18446744073709551616 := Nat.lt_of_le_of_lt Nat.and_le_left hm
  unfold bitsI
  have e1 : (BitVec.ofInt IntKind.u64.bits (m : Int)).toNat = m := by
    show (BitVec.ofInt 64 (m : Int)).toNat = m
    rw [BitVec.toNat_ofInt]; omega
  have e2 : (BitVec.ofInt IntKind.u64.bits (n : Int)).toNat = n := by
    show (BitVec.ofInt 64 (n : Int)).toNat = n
    rw [BitVec.toNat_ofInt]; omega
  simp only [BitVec.toNat_and, e1, e2]
  rw [IntKind.wrap_u64]; omega
def cntI (x : Int) : Int := (cnt 64 x.toNat : Nat)
theorem sh_nat' {n j P : Nat} {J : Int} (hJ : J = (j : Int)) (hj : j ≤ 64) (hP : 2 ^ j = P) : shI .u64 false (n : Int) J = ((n / P : Nat) : Int) := by
  subst hJ; subst hP; exact sh_nat n j hj
theorem and_nat' {m n : Nat} {N : Int} (hN : N = (n : Int)) (hm : m < 18446744073709551616) (hn : n < 18446744073709551616) : bitsI .and .u64 (m : Int) N = ((m &&& n : Nat) : Int) := by
  subst hN; exact and_nat m n hm hn
theorem rep85 : (6148914691236517205 : Int) = ((rep 85 8 : Nat) : Int) := by decide
theorem rep51 : (3689348814741910323 : Int) = ((rep 51 8 : Nat) : Int) := by decide
theorem rep15 : (1085102592571150095 : Int) = ((rep 15 8 : Nat) : Int) := by decide
theorem u64_id {n : Nat} (h : n < 18446744073709551616) : IntKind.u64.wrap (n : Int) = (n : Int) := by rw [IntKind.wrap_u64]; omega
theorem pop_rounds' (x : Nat) (hx : x < 2 ^ 64) (y z t u v w : Nat) (hy : y = (x / 2 &&& rep 85 8) + (x &&& rep 85 8)) (hz : z = (y / 4 &&& rep 51 8) + (y &&& rep 51 8)) (ht : t = (z / 16 + z) &&& rep 15 8) (hu : u = t + t / 256) (hv : v = u + u / 65536) (hw : w = v + v / 4294967296) :
    w % 128 = cnt 64 x ∧ y < 2 ^ 64 ∧ z < 2 ^ 64 ∧ z / 16 + z < 2 ^ 64 ∧ u < 2 ^ 64 ∧ v < 2 ^ 64 ∧ w < 2 ^ 64 := by
  subst hy hz ht hu hv hw
  exact pop_rounds x hx
theorem last_and {w c : Nat} (h : w < 18446744073709551616) (hc : w % 128 = c) : bitsI .and .i64 (IntKind.i64.wrap (w : Int)) 127 = (c : Int) := by
  unfold bitsI
  have f1 : (BitVec.ofInt IntKind.i64.bits (IntKind.i64.wrap (w : Int))).toNat = w := by
    show (BitVec.ofInt 64 (IntKind.i64.wrap (w : Int))).toNat = w
    rw [BitVec.toNat_ofInt, IntKind.wrap_i64]; omega
  have f2 : (BitVec.ofInt IntKind.i64.bits (127 : Int)).toNat = 127 := by decide
  have f3 : w &&& 127 = w % 128 := Nat.and_two_pow_sub_one_eq_mod w 7
  simp only [BitVec.toNat_and, f1, f2, f3]
  rw [IntKind.wrap_i64]; omega
theorem pop_int {n : Nat} {A B T U V W : Int} (hn : n < 18446744073709551616)
    (hA : A = IntKind.u64.wrap (bitsI .and .u64 (shI .u64 false (n : Int) 1) 6148914691236517205 + bitsI .and .u64 (n : Int) 6148914691236517205))
    (hB : B = IntKind.u64.wrap (bitsI .and .u64 (shI .u64 false A 2) 3689348814741910323 + bitsI .and .u64 A 3689348814741910323))
    (hT : T = bitsI .and .u64 (IntKind.u64.wrap (shI .u64 false B 4 + B)) 1085102592571150095)
    (hU : U = IntKind.u64.wrap (T + shI .u64 false T 8))
    (hV : V = IntKind.u64.wrap (U + shI .u64 false U 16))
    (hW : W = IntKind.u64.wrap (V + shI .u64 false V 32)) :
    bitsI .and .i64 (IntKind.i64.wrap W) 127 = cntI (n : Int) := by
  obtain ⟨y, hy⟩ : ∃ y, y = (n / 2 &&& rep 85 8) + (n &&& rep 85 8) := ⟨_, rfl⟩
  obtain ⟨z, hz⟩ : ∃ z, z = (y / 4 &&& rep 51 8) + (y &&& rep 51 8) := ⟨_, rfl⟩
  obtain ⟨t, ht⟩ : ∃ t, t = (z / 16 + z) &&& rep 15 8 := ⟨_, rfl⟩
  obtain ⟨u, hu⟩ : ∃ u, u = t + t / 256 := ⟨_, rfl⟩
  obtain ⟨v, hv⟩ : ∃ v, v = u + u / 65536 := ⟨_, rfl⟩
  obtain ⟨w, hw⟩ : ∃ w, w = v + v / 4294967296 := ⟨_, rfl⟩
  obtain ⟨p1, p2, p3, p4, p5, p6, p7⟩ := pop_rounds' n hn y z t u v w hy hz ht hu hv hw
  have hA' : A = (y : Int) := by
    rw [hA, sh_nat' (n := n) (j := 1) (P := 2) (by rfl) (by decide) (by decide), and_nat' rep85 (Nat.lt_of_le_of_lt (Nat.div_le_self _ _) hn) (by decide), and_nat' rep85 hn (by decide), ← Int.natCast_add, ← hy, u64_id p2]
  have hB' : B = (z : Int) := by
    rw [hB, hA', sh_nat' (n := y) (j := 2) (P := 4) (by rfl) (by decide) (by decide), and_nat' rep51 (Nat.lt_of_le_of_lt (Nat.div_le_self _ _) p2) (by decide), and_nat' rep51 p2 (by decide), ← Int.natCast_add, ← hz, u64_id p3]
  have hT' : T = (t : Int) := by
    rw [hT, hB', sh_nat' (n := z) (j := 4) (P := 16) (by rfl) (by decide) (by decide), ← Int.natCast_add, u64_id p4, and_nat' rep15 p4 (by decide), ← ht]
  have hU' : U = (u : Int) := by
    rw [hU, hT', sh_nat' (n := t) (j := 8) (P := 256) (by rfl) (by decide) (by decide), ← Int.natCast_add, ← hu, u64_id p5]
  have hV' : V = (v : Int) := by
    rw [hV, hU', sh_nat' (n := u) (j := 16) (P := 65536) (by rfl) (by decide) (by decide), ← Int.natCast_add, ← hv, u64_id p6]
  have hW' : W = (w : Int) := by
    rw [hW, hV', sh_nat' (n := v) (j := 32) (P := 4294967296) (by rfl) (by decide) (by decide), ← Int.natCast_add, ← hw, u64_id p7]
  rw [hW', last_and p7 p1]
  rfl
end Lw
