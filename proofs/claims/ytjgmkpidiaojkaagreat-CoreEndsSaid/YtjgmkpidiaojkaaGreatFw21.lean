/- The abstract machine (tables). -/
import Derived.Test.YtjgmkpidiaojkaaGreatFw20
import Derived.Test.YtjgmkpidiaojkaaGreatFw5b
/- A table of types, checked by the kernel against the program's own. -/
set_option linter.unusedVariables false
set_option linter.unusedSimpArgs false
namespace Lw
open Go

def natEq (a b : Nat) : Bool := Nat.beq a b
theorem natEq_iff {a b : Nat} (h : natEq a b = true) : a = b := Nat.eq_of_beq_eq_true h

def cellIs : Cell → Value → Bool
  | .pl (.int k n), .int j m => kEq k j && (n == m)
  | .pl (.bool a), .bool b => a == b
  | .pl (.str s), .string u => natEq s.size 0 && natEq u.size 0
  | .nilp, .pointer none => true
  | .es, .slice none 0 0 => true
  | _, _ => false
def cellsAre : List Cell → List Value → Bool
  | [], [] => true
  | c :: r, v :: s => cellIs c v && cellsAre r s
  | _, _ => false

theorem bytes_empty {a b : ByteArray} (h : a.size = 0) (k : b.size = 0) : a = b := by
  have e : ∀ x : ByteArray, x.size = 0 → x = ByteArray.empty := fun x hx => by
    apply ByteArray.ext
    exact Array.eq_empty_of_size_eq_zero hx
  rw [e a h, e b k]
theorem cellIs_iff {c : Cell} {v : Value} (h : cellIs c v = true) : v = czero c ∧ okZ [c] = true := by
  unfold cellIs at h
  split at h
  · simp only [Bool.and_eq_true, beq_iff_eq] at h
    obtain ⟨h1, rfl⟩ := h
    rw [kEq_eq h1]; exact ⟨rfl, rfl⟩
  · simp only [beq_iff_eq] at h
    subst h; exact ⟨rfl, rfl⟩
  · simp only [Bool.and_eq_true] at h
    exact ⟨by rw [bytes_empty (natEq_iff h.2) (natEq_iff h.1)]; rfl, rfl⟩
  · exact ⟨rfl, rfl⟩
  · exact ⟨rfl, rfl⟩
  · cases h
theorem okZ_cons {c : Cell} {r : List Cell} (h : okZ [c] = true) (k : okZ r = true) : okZ (c :: r) = true := by
  cases c <;> simp [okZ] at h ⊢ <;> exact k
theorem cellsAre_iff : ∀ {cs : List Cell} {vs : List Value}, cellsAre cs vs = true → vs = cs.map czero ∧ okZ cs = true
  | [], [], _ => ⟨rfl, rfl⟩
  | c :: r, v :: s, h => by
    simp only [cellsAre, Bool.and_eq_true] at h
    obtain ⟨h1, h2⟩ := cellIs_iff h.1
    obtain ⟨h3, h4⟩ := cellsAre_iff h.2
    exact ⟨by rw [h1, h3]; rfl, okZ_cons h2 h4⟩
  | [], _ :: _, h => by cases h
  | _ :: _, [], h => by cases h
theorem map_pl_czero (ps : List PC) : (ps.map Cell.pl).map czero = ps.map PC.val := by rw [List.map_map]; rfl

def fldsOk (P : Program) : List Field → List FI → Bool
  | [], [] => true
  | f :: r, x :: s => natEq f.offset x.off && ((match P.info? f.type with
      | some i => natEq i.size x.sz
      | none => false) && (Nat.blt 0 x.sz && ((match P.underlying f.type with
      | some d => aggD d == x.agg
      | none => false) && fldsOk P r s)))
  | _, _ => false
theorem fldsOk_iff {P : Program} : ∀ {fs : List Field} {xs : List FI}, fldsOk P fs xs = true → fs.map (fun f => (f.offset, (P.info? f.type).map (·.size))) = xs.map (fun x => (x.off, some x.sz)) ∧ (xs.all fun x => decide (0 < x.sz)) = true ∧ fs.map (fun f => (P.underlying f.type).map aggD) = xs.map (fun x => some x.agg)
  | [], [], _ => ⟨rfl, rfl, rfl⟩
  | f :: r, x :: s, h => by
    simp only [fldsOk, Bool.and_eq_true] at h
    obtain ⟨h1, h2, h3, h7, h4⟩ := h
    obtain ⟨h5, h6, h8⟩ := fldsOk_iff h4
    split at h7
    case h_2 => cases h7
    rename_i dd hdd
    have h7 : aggD dd = x.agg := by simpa using h7
    split at h2
    · rename_i i hi
      have e1 := natEq_iff h1
      have e2 := natEq_iff h2
      have e3 : 0 < x.sz := by simpa [Nat.blt_eq] using h3
      refine ⟨by simp only [List.map_cons, h5, hi, Option.map_some, e1, e2], ?_⟩
      exact ⟨by simp only [List.all_cons, h6, Bool.and_true, decide_eq_true e3], by simp only [List.map_cons, h8, hdd, Option.map_some, h7]⟩
    · cases h2
  | [], _ :: _, h => by cases h
  | _ :: _, [], h => by cases h

def elemOk (P : Program) (eid : RTy → TypeId) (d : Option TypeDesc) (rt : RTy) : Bool := match d with
  | some (.slice e) => natEq e (eid rt) && match P.info? (eid rt) with
    | some i => natEq i.size rt.sz && match i.zero with
      | some z => cellsAre ((rt.enc rt.zero).map .pl) z.cells.toList && Nat.ble i.bytes 1000
      | none => false
    | none => false
  | _ => false

def agreeB (P : Program) (eid : RTy → TypeId) (t : TypeId) (ti : TI) : Bool :=
  (match P.info? t with
    | some i => natEq i.size ti.size && match ti.zero with
      | [] => true
      | z :: zs => match i.zero with
        | some v => cellsAre (z :: zs) v.cells.toList
        | none => false
    | none => false) &&
  ((match P.underlying t with
    | some d => (aggD d == ti.agg)
    | none => false) &&
  ((match ti.flds with
    | [] => true
    | f :: fs => match P.underlying t with
      | some (.struct gs) => fldsOk P gs.toList (f :: fs)
      | _ => false) &&
  ((match ti.elem with
    | none => true
    | some rt => elemOk P eid (P.underlying t) rt) &&
  ((match ti.ik with
    | none => true
    | some k => match P.underlying t with
      | some (.int j) => kEq j k
      | _ => false) &&
  ((match ti.isBool with
    | false => true
    | true => match P.underlying t with
      | some .bool => true
      | _ => false) &&
  ((match ti.isPtr with
    | false => true
    | true => match P.underlying t with
      | some (.pointer _) => true
      | _ => false) &&
  ((match ti.isStr with
    | false => true
    | true => match P.underlying t with
      | some .string => true
      | _ => false))))))))

theorem agreeB_sound {P : Program} {W0 : World} {eid : RTy → TypeId} {t : TypeId} {ti : TI} (h : agreeB P eid t ti = true)
    (heq : ti.eqk = true → ∀ zs, plOf ti.zero = some zs → P.eqGuardType P.depth t = false ∧
      ∀ ps qs w, sameKinds zs ps = true → sameKinds zs qs = true → (Op.equalIn 10000 t (.agg (ps.map PC.val).toArray) (.agg (qs.map PC.val).toArray)).run P w = .ok (pcsEq ps qs) w) : AgreeT ⟨P, W0, eid⟩ t ti := by
  unfold agreeB at h
  simp only [Bool.and_eq_true] at h
  obtain ⟨h1, h2, h3, h4, h5, h6, h7, h8⟩ := h
  refine ⟨?_, ?_, ?_, ?_, ?_, ?_, ?_, ?_, ?_, ?_, heq⟩
  · split at h1
    · rename_i i hi
      simp only [Bool.and_eq_true] at h1
      show (P.info? t).map (·.size) = _
      rw [hi, Option.map_some, natEq_iff h1.1]
    · cases h1
  · intro hz
    split at h1
    · rename_i i hi
      simp only [Bool.and_eq_true] at h1
      have h1 := h1.2
      cases hzz : ti.zero with
      | nil => exact absurd hzz hz
      | cons z zs =>
        rw [hzz] at h1
        simp only at h1
        split at h1
        · rename_i v hv
          obtain ⟨e1, e2⟩ := cellsAre_iff h1
          refine ⟨e2, v, ?_, e1⟩
          show (P.info? t).map (·.zero) = _
          rw [hi, Option.map_some, hv]
        · cases h1
    · cases h1
  · split at h2
    · rename_i d hd
      exact ⟨d, hd, by simpa using h2⟩
    · cases h2
  · intro hf
    cases hff : ti.flds with
    | nil => exact absurd hff hf
    | cons f fs =>
      rw [hff] at h3
      simp only at h3
      split at h3
      · rename_i gs hd
        obtain ⟨e1, e2, _⟩ := fldsOk_iff h3
        exact ⟨gs, hd, e1, e2⟩
      · cases h3
  · intro fs hfs hf
    cases hff : ti.flds with
    | nil => exact absurd hff hf
    | cons f fs' =>
      rw [hff] at h3
      simp only at h3
      split at h3
      · rename_i gs hd
        have hfs : P.underlying t = some (.struct fs) := hfs
        rw [hd] at hfs
        cases hfs
        exact (fldsOk_iff h3).2.2
      · cases h3
  · intro rt hr
    rw [hr] at h4
    simp only at h4
    unfold elemOk at h4
    split at h4
    · rename_i e hd
      simp only [Bool.and_eq_true] at h4
      obtain ⟨e1, e2⟩ := h4
      have e1 := natEq_iff e1
      subst e1
      refine ⟨hd, ?_⟩
      split at e2
      · rename_i i hi
        simp only [Bool.and_eq_true] at e2
        obtain ⟨e3, e4⟩ := e2
        split at e4
        · rename_i z hz
          simp only [Bool.and_eq_true] at e4
          obtain ⟨e5, _⟩ := cellsAre_iff e4.1
          refine ⟨z, i.bytes, ?_, by rw [e5, map_pl_czero], Nat.le_of_ble_eq_true e4.2⟩
          show (P.info? (eid rt)).map _ = _
          rw [hi, Option.map_some, natEq_iff e3, hz]
        · cases e4
      · cases e2
    · cases h4
  · intro k hk
    rw [hk] at h5
    simp only at h5
    split at h5
    · rename_i j hd
      rw [← kEq_eq h5]; exact hd
    · cases h5
  · intro hb
    rw [hb] at h6
    simp only at h6
    split at h6
    · rename_i hd; exact hd
    · cases h6
  · intro hb
    rw [hb] at h7
    simp only at h7
    split at h7
    · rename_i e hd; exact ⟨e, hd⟩
    · cases h7
  · intro hb
    rw [hb] at h8
    simp only at h8
    split at h8
    · rename_i hd; exact hd
    · cases h8

/-! ### A table as a list -/
def lookTy : List (Nat × TI) → Nat → Option TI
  | [], _ => none
  | (k, x) :: r, t => bif Nat.beq k t then some x else lookTy r t
theorem sameKind_trans {a b c : PC} (h : sameKind a b = true) (k : sameKind b c = true) : sameKind a c = true := by
  cases a <;> cases b <;> simp only [sameKind] at h <;> (try cases h) <;> cases c <;> simp only [sameKind] at k <;> (try cases k) <;> simp only [sameKind]
  rw [kEq_eq h]; exact k
theorem sameKinds_trans : ∀ {a b c : List PC}, sameKinds a b = true → sameKinds b c = true → sameKinds a c = true
  | [], [], [], _, _ => rfl
  | x :: a, y :: b, z :: c, h, k => by
    unfold sameKinds at *
    rw [Bool.and_eq_true] at *
    exact ⟨sameKind_trans h.1 k.1, sameKinds_trans h.2 k.2⟩
  | [], _ :: _, _, h, _ => by cases h
  | _ :: _, [], _, h, _ => by cases h
  | [], [], _ :: _, _, k => by cases k
  | _ :: _, _ :: _, [], _, k => by cases k
def eqOk (P : Program) (t : TypeId) (ti : TI) : Bool := match ti.eqk with
  | false => true
  | true => !(P.eqGuardType P.depth t) && ((match P.underlying t with
      | some (.struct _) => true
      | _ => false) && (match plOf ti.zero, eqLay P 20 t with
      | some zs, some ys => sameKinds ys zs
      | _, _ => false))
theorem eqOk_sound {P : Program} {t : TypeId} {ti : TI} (h : eqOk P t ti = true) (he : ti.eqk = true) (zs : List PC) (hz : plOf ti.zero = some zs) : P.eqGuardType P.depth t = false ∧
    ∀ ps qs w, sameKinds zs ps = true → sameKinds zs qs = true → (Op.equalIn 10000 t (.agg (ps.map PC.val).toArray) (.agg (qs.map PC.val).toArray)).run P w = .ok (pcsEq ps qs) w := by
  unfold eqOk at h
  rw [he] at h
  simp only [Bool.and_eq_true, Bool.not_eq_true'] at h
  obtain ⟨h1, h2, h3⟩ := h
  refine ⟨h1, fun ps qs w hp hq => ?_⟩
  rw [hz] at h3
  split at h2
  · rename_i fs hu
    split at h3
    · rename_i zs' ys hzs hy
      cases hzs
      have := eqLay_run 20 t ys hy 10000 (by decide) ps qs w (sameKinds_trans h3 hp) (sameKinds_trans h3 hq)
      unfold mkV at this
      rw [hu] at this
      exact this
    · cases h3
  · cases h2
def agreeAll (P : Program) (eid : RTy → TypeId) : List (Nat × TI) → Bool
  | [] => true
  | (k, x) :: r => agreeB P eid k x && (eqOk P k x && agreeAll P eid r)
theorem agree_of {P : Program} {eid : RTy → TypeId} : ∀ {l : List (Nat × TI)}, agreeAll P eid l = true → ∀ W0, Agree ⟨P, W0, eid⟩ (lookTy l)
  | [], _, W0 => fun t ti h => by cases h
  | (k, x) :: r, h, W0 => by
    simp only [agreeAll, Bool.and_eq_true] at h
    obtain ⟨h1, h2, h3⟩ := h
    intro t ti ht
    unfold lookTy at ht
    cases hb : Nat.beq k t with
    | true =>
      rw [hb] at ht
      cases ht
      have := Nat.eq_of_beq_eq_true hb
      subst this
      exact agreeB_sound h1 (fun he zs hz => eqOk_sound h2 he zs hz)
    | false =>
      rw [hb] at ht
      exact agree_of h3 W0 t ti ht
end Lw
