/- The functions of this group answer so. -/
import Derived.Test.YtjgmkpidiaojkaaFwEtaMV
import Derived.Test.YtjgmkpidiaojkaaFwEta
set_option linter.unusedVariables false
set_option linter.unusedSimpArgs false
set_option maxRecDepth 20000
set_option maxHeartbeats 4000000
namespace Go.Proofs.Ytjgmkpidiaojkaa
open Lw
theorem cnt_or : ∀ (n x y : Nat), cnt n x ≤ cnt n (x ||| y)
  | 0, _, _ => Nat.le_refl _
  | n + 1, x, y => by
    have ih := cnt_or n (x / 2) (y / 2)
    have h := Nat.or_mod_two_eq_one (a := x) (b := y)
    rw [cnt_succ, cnt_succ, Nat.or_div_two]
    omega
theorem or_nat (m n : Nat) (hm : m < 18446744073709551616) (hn : n < 18446744073709551616) : bitsI .or .u64 (m : Int) (n : Int) = ((m ||| n : Nat) : Int) ∧ (m ||| n) < 18446744073709551616 := by
  have hmn : (m ||| n) < 2 ^ 64 := Nat.or_lt_two_pow (n := 64) hm hn
  refine ⟨?_, hmn⟩
  unfold bitsI
  have e1 : (BitVec.ofInt IntKind.u64.bits (m : Int)).toNat = m := by
    show (BitVec.ofInt 64 (m : Int)).toNat = m
    rw [BitVec.toNat_ofInt]; omega
  have e2 : (BitVec.ofInt IntKind.u64.bits (n : Int)).toNat = n := by
    show (BitVec.ofInt 64 (n : Int)).toNat = n
    rw [BitVec.toNat_ofInt]; omega
  simp only [BitVec.toNat_or, e1, e2]
  rw [IntKind.wrap_u64]; omega
theorem shl_one (k : Nat) (hk : k < 64) : shI .u64 true 1 (k : Int) = ((2 ^ k : Nat) : Int) ∧ 2 ^ k < 18446744073709551616 := by
  have h : 2 ^ k < 2 ^ 64 := Nat.pow_lt_pow_right (by decide) hk
  refine ⟨?_, h⟩
  unfold shI
  rw [show min ((k : Int).toNat) (IntKind.u64.bits) = k by rw [Int.toNat_natCast]; exact Nat.min_eq_left (Nat.le_of_lt hk)]
  simp only [cond_true, Int.one_mul]
  rw [IntKind.wrap_u64]
  have : ((2 : Int) ^ k) = ((2 ^ k : Nat) : Int) := by norm_cast
  rw [this]
  exact Int.emod_eq_of_lt (Int.natCast_nonneg _) (Int.ofNat_lt.2 h)
theorem bitI_nat (f : Int) : ∃ n : Nat, bitI f = (n : Int) ∧ n < 18446744073709551616 := by
  unfold bitI
  split
  · exact ⟨_, rfl, (shl_one f.toNat (by omega)).2⟩
  · exact ⟨0, rfl, by decide⟩
theorem more_stops {s : Lw.Stops} (h : stopsR s) (f : Int) : stopsR ⟨bitsI .or .u64 s.press (bitI f), s.up, s.down⟩ ∧ onesI s ≤ onesI ⟨bitsI .or .u64 s.press (bitI f), s.up, s.down⟩ := by
  obtain ⟨h1, h2, h3⟩ := h
  obtain ⟨n, hn, hlt⟩ := bitI_nat f
  obtain ⟨m, hm⟩ : ∃ m : Nat, s.press = (m : Int) := ⟨s.press.toNat, by unfold u64R at h1; omega⟩
  have hml : m < 18446744073709551616 := by unfold u64R at h1; omega
  obtain ⟨e, el⟩ := or_nat m n hml hlt
  rw [hm, hn, e]
  refine ⟨⟨by unfold u64R; simp only; omega, h2, h3⟩, ?_⟩
  have := cnt_or 64 m n
  unfold onesI cntI
  simp only [hm, Int.toNat_natCast]
  omega
theorem base_val {far : Int} {c : Config} {x : Lw.Car} (h0 : 0 ≤ far) (h1 : far ≤ 252) : baseI far c x = far + onesI x.stops * (2 * spanI c.door + spanI c.dwell) ∧ 0 ≤ onesI x.stops * (2 * spanI c.door + spanI c.dwell) ∧ onesI x.stops * (2 * spanI c.door + spanI c.dwell) ≤ 576000 := by
  have hx := onesI_range x.stops
  have hd := spanI_range c.door
  have hw := spanI_range c.dwell
  have p := mul_range (a := onesI x.stops) (b := 2 * spanI c.door + spanI c.dwell) (A := 192) (B := 3000) hx.1 hx.2 (by omega) (by omega)
  have p2 : onesI x.stops * (2 * spanI c.door + spanI c.dwell) ≤ 576000 := p.2
  refine ⟨?_, p.1, p2⟩
  unfold baseI
  rw [wrap_id (n := 2 * spanI c.door) (by omega) (by omega), wrap_id (n := 2 * spanI c.door + spanI c.dwell) (by omega) (by omega), wrap_id (n := onesI x.stops * (2 * spanI c.door + spanI c.dwell)) (by omega) (by omega), wrap_id (by omega) (by omega)]
theorem more_cost {c : Config} {x : Lw.Car} {k : Lw.Call} {t : Lw.Stops} (hin : insideB x k = true) (h : onesI x.stops ≤ onesI t) : costP c ⟨x.door, x.unit, x.way, x.timer, x.just, x.load, x.blocked, x.broken, x.mode, x.target, x.hold, t⟩ k ≥ costP c x k := by
  simp only [insideB, Bool.and_eq_true, decide_eq_true_eq] at hin
  have h4 : at4 k.floor = 4 * k.floor := wrap_id (by omega) (by omega)
  have hf : 0 ≤ farP x.unit k.floor ∧ farP x.unit k.floor ≤ 252 := by
    unfold farP
    rw [h4, wrap_id (n := 4 * k.floor - x.unit) (by omega) (by omega), wrap_id (n := x.unit - 4 * k.floor) (by omega) (by omega), mm_max]
    omega
  have hfl := floorsI_range c.floors
  have ht : turnI c = 8 * (floorsI c.floors - 1) := by
    unfold turnI
    rw [wrap_id (n := floorsI c.floors - 1) (by omega) (by omega), wrap_id (by omega) (by omega)]
  obtain ⟨b1, q1, q2⟩ := base_val (c := c) (x := x) hf.1 hf.2
  obtain ⟨b2, q3, q4⟩ := base_val (c := c) (x := ⟨x.door, x.unit, x.way, x.timer, x.just, x.load, x.blocked, x.broken, x.mode, x.target, x.hold, t⟩) hf.1 hf.2
  have hd := spanI_range c.door
  have hw := spanI_range c.dwell
  have pm : onesI x.stops * (2 * spanI c.door + spanI c.dwell) ≤ onesI t * (2 * spanI c.door + spanI c.dwell) := Int.mul_le_mul_of_nonneg_right h (by omega)
  unfold costP
  rw [show onwayB ⟨x.door, x.unit, x.way, x.timer, x.just, x.load, x.blocked, x.broken, x.mode, x.target, x.hold, t⟩ k = onwayB x k from rfl, b1, b2]
  simp only at q3 q4 ⊢
  generalize onesI x.stops * (2 * spanI c.door + spanI c.dwell) = u at *
  generalize onesI t * (2 * spanI c.door + spanI c.dwell) = v at *
  cases onwayB x k
  · simp only [cond_false]
    rw [ht, wrap_id (by omega) (by omega), wrap_id (by omega) (by omega)]
    omega
  · simp only [cond_true]
    omega
end Go.Proofs.Ytjgmkpidiaojkaa
