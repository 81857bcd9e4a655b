/- The abstract machine (the end of a law). -/
import Derived.Test.YtjgmkpidiaojkaaGreatFw19
import Derived.OpenShut
import Derived.ProofKit
import Derived.Carry
import Derived.Deep.Slices
/- The end of a law: from a summary of the law's function to the given statement's form. -/
set_option linter.unusedVariables false
set_option linter.unusedSimpArgs false
namespace Lw
open Go Go.ChangeShapes Go.WideShapes Go.ChangeAt Go.RowKit

/-! ### 1. Data that came in -/
inductive LK where
  | int (k : IntKind)
  | bool
  | str
  deriving DecidableEq
def kindOf : PC → LK
  | .int k _ => .int k
  | .bool _ => .bool
  | .str _ => .str
def kindsOf : List PC → List LK
  | [] => []
  | p :: r => kindOf p :: kindsOf r
theorem kinds_cons (p : PC) (r : List PC) : kindsOf (p :: r) ≠ [] := by simp [kindsOf]
def PC.wf : PC → Prop
  | .int k n => (Lit.int k n).wf = true
  | _ => True
def WfAll : List PC → Prop
  | [] => True
  | p :: r => p.wf ∧ WfAll r

theorem open_i {k : IntKind} {ks : List LK} {ps : List PC} (h : kindsOf ps = .int k :: ks) : ∃ n r, ps = .int k n :: r ∧ kindsOf r = ks := by
  cases ps with
  | nil => simp [kindsOf] at h
  | cons p r =>
    cases p with
    | int k' n =>
      simp only [kindsOf, kindOf, List.cons.injEq, LK.int.injEq] at h
      obtain ⟨rfl, h⟩ := h
      exact ⟨n, r, rfl, h⟩
    | bool b => simp [kindsOf, kindOf] at h
    | str s => simp [kindsOf, kindOf] at h
theorem open_b {ks : List LK} {ps : List PC} (h : kindsOf ps = .bool :: ks) : ∃ b r, ps = .bool b :: r ∧ kindsOf r = ks := by
  cases ps with
  | nil => simp [kindsOf] at h
  | cons p r =>
    cases p with
    | int k' n => simp [kindsOf, kindOf] at h
    | bool b =>
      simp only [kindsOf, kindOf, List.cons.injEq, true_and] at h
      exact ⟨b, r, rfl, h⟩
    | str s => simp [kindsOf, kindOf] at h
def Config.kinds : List LK := [.int .i64, .int .i64, .int .i64, .int .i64, .int .i64, .int .i64, .int .i64, .int .i64, .int .i64, .int .i64, .int .i64, .int .i64, .int .i64, .int .i64, .int .i64, .int .i64, .int .i64, .int .i64]
theorem Config.dec {ps : List PC} (h : kindsOf ps = Config.kinds) : ∃ x : Config, ps = x.enc := by
  obtain ⟨a0, r0, rfl, h0⟩ := open_i h
  obtain ⟨a1, r1, rfl, h1⟩ := open_i h0
  obtain ⟨a2, r2, rfl, h2⟩ := open_i h1
  obtain ⟨a3, r3, rfl, h3⟩ := open_i h2
  obtain ⟨a4, r4, rfl, h4⟩ := open_i h3
  obtain ⟨a5, r5, rfl, h5⟩ := open_i h4
  obtain ⟨a6, r6, rfl, h6⟩ := open_i h5
  obtain ⟨a7, r7, rfl, h7⟩ := open_i h6
  obtain ⟨a8, r8, rfl, h8⟩ := open_i h7
  obtain ⟨a9, r9, rfl, h9⟩ := open_i h8
  obtain ⟨a10, r10, rfl, h10⟩ := open_i h9
  obtain ⟨a11, r11, rfl, h11⟩ := open_i h10
  obtain ⟨a12, r12, rfl, h12⟩ := open_i h11
  obtain ⟨a13, r13, rfl, h13⟩ := open_i h12
  obtain ⟨a14, r14, rfl, h14⟩ := open_i h13
  obtain ⟨a15, r15, rfl, h15⟩ := open_i h14
  obtain ⟨a16, r16, rfl, h16⟩ := open_i h15
  obtain ⟨a17, r17, rfl, h17⟩ := open_i h16
  cases r17 with
  | nil => exact ⟨⟨a0, a1, a2, a3, a4, a5, a6, a7, a8, a9, a10, a11, a12, a13, a14, a15, a16, a17⟩, rfl⟩
  | cons p q => exact absurd h17 (kinds_cons _ _)
def Door.kinds : List LK := [.int .i64, .int .i64]
theorem Door.dec {ps : List PC} (h : kindsOf ps = Door.kinds) : ∃ x : Door, ps = x.enc := by
  obtain ⟨a0, r0, rfl, h0⟩ := open_i h
  obtain ⟨a1, r1, rfl, h1⟩ := open_i h0
  cases r1 with
  | nil => exact ⟨⟨a0, a1⟩, rfl⟩
  | cons p q => exact absurd h1 (kinds_cons _ _)
def Stops.kinds : List LK := [.int .u64, .int .u64, .int .u64]
theorem Stops.dec {ps : List PC} (h : kindsOf ps = Stops.kinds) : ∃ x : Stops, ps = x.enc := by
  obtain ⟨a0, r0, rfl, h0⟩ := open_i h
  obtain ⟨a1, r1, rfl, h1⟩ := open_i h0
  obtain ⟨a2, r2, rfl, h2⟩ := open_i h1
  cases r2 with
  | nil => exact ⟨⟨a0, a1, a2⟩, rfl⟩
  | cons p q => exact absurd h2 (kinds_cons _ _)
def Call.kinds : List LK := [.int .i64, .int .i64]
theorem Call.dec {ps : List PC} (h : kindsOf ps = Call.kinds) : ∃ x : Call, ps = x.enc := by
  obtain ⟨a0, r0, rfl, h0⟩ := open_i h
  obtain ⟨a1, r1, rfl, h1⟩ := open_i h0
  cases r1 with
  | nil => exact ⟨⟨a0, a1⟩, rfl⟩
  | cons p q => exact absurd h1 (kinds_cons _ _)
def Wait.kinds : List LK := [.int .i64, .int .i64, .int .i64, .int .i64]
theorem Wait.dec {ps : List PC} (h : kindsOf ps = Wait.kinds) : ∃ x : Wait, ps = x.enc := by
  obtain ⟨a0, r0, rfl, h0⟩ := open_i h
  obtain ⟨a1, r1, rfl, h1⟩ := open_i h0
  obtain ⟨a2, r2, rfl, h2⟩ := open_i h1
  obtain ⟨a3, r3, rfl, h3⟩ := open_i h2
  cases r3 with
  | nil => exact ⟨⟨a0, a1, a2, a3⟩, rfl⟩
  | cons p q => exact absurd h3 (kinds_cons _ _)
def Ask.kinds : List LK := [.int .i64, .int .i64, .int .i64, .int .i64, .int .i64]
theorem Ask.dec {ps : List PC} (h : kindsOf ps = Ask.kinds) : ∃ x : Ask, ps = x.enc := by
  obtain ⟨a0, r0, rfl, h0⟩ := open_i h
  obtain ⟨a1, r1, rfl, h1⟩ := open_i h0
  obtain ⟨a2, r2, rfl, h2⟩ := open_i h1
  obtain ⟨a3, r3, rfl, h3⟩ := open_i h2
  obtain ⟨a4, r4, rfl, h4⟩ := open_i h3
  cases r4 with
  | nil => exact ⟨⟨a0, a1, a2, a3, a4⟩, rfl⟩
  | cons p q => exact absurd h4 (kinds_cons _ _)
def Lease.kinds : List LK := [.int .i64, .int .i64, .int .i64, .int .i64, .int .i64, .int .i64, .int .i64, .int .i64, .int .i64, .int .i64]
theorem Lease.dec {ps : List PC} (h : kindsOf ps = Lease.kinds) : ∃ x : Lease, ps = x.enc := by
  obtain ⟨a0, r0, rfl, h0⟩ := open_i h
  obtain ⟨a1, r1, rfl, h1⟩ := open_i h0
  obtain ⟨a2, r2, rfl, h2⟩ := open_i h1
  obtain ⟨a3, r3, rfl, h3⟩ := open_i h2
  obtain ⟨a4, r4, rfl, h4⟩ := open_i h3
  obtain ⟨a5, r5, rfl, h5⟩ := open_i h4
  obtain ⟨a6, r6, rfl, h6⟩ := open_i h5
  obtain ⟨a7, r7, rfl, h7⟩ := open_i h6
  obtain ⟨a8, r8, rfl, h8⟩ := open_i h7
  obtain ⟨a9, r9, rfl, h9⟩ := open_i h8
  cases r9 with
  | nil => exact ⟨⟨⟨a0, a1, a2, a3, a4⟩, a5, a6, a7, a8, a9⟩, rfl⟩
  | cons p q => exact absurd h9 (kinds_cons _ _)
def Msg.kinds : List LK := [.int .i64, .int .i64, .int .i64, .int .i64]
theorem Msg.dec {ps : List PC} (h : kindsOf ps = Msg.kinds) : ∃ x : Msg, ps = x.enc := by
  obtain ⟨a0, r0, rfl, h0⟩ := open_i h
  obtain ⟨a1, r1, rfl, h1⟩ := open_i h0
  obtain ⟨a2, r2, rfl, h2⟩ := open_i h1
  obtain ⟨a3, r3, rfl, h3⟩ := open_i h2
  cases r3 with
  | nil => exact ⟨⟨a0, a1, a2, a3⟩, rfl⟩
  | cons p q => exact absurd h3 (kinds_cons _ _)
def Event.kinds : List LK := [.int .i64, .int .i64, .int .i64, .int .i64, .int .i64]
theorem Event.dec {ps : List PC} (h : kindsOf ps = Event.kinds) : ∃ x : Event, ps = x.enc := by
  obtain ⟨a0, r0, rfl, h0⟩ := open_i h
  obtain ⟨a1, r1, rfl, h1⟩ := open_i h0
  obtain ⟨a2, r2, rfl, h2⟩ := open_i h1
  obtain ⟨a3, r3, rfl, h3⟩ := open_i h2
  obtain ⟨a4, r4, rfl, h4⟩ := open_i h3
  cases r4 with
  | nil => exact ⟨⟨a0, ⟨a1, a2, a3, a4⟩⟩, rfl⟩
  | cons p q => exact absurd h4 (kinds_cons _ _)
def Car.kinds : List LK := [.int .i64, .int .i64, .int .i64, .int .i64, .int .i64, .int .i64, .int .i64, .bool, .bool, .int .i64, .int .i64, .bool, .int .u64, .int .u64, .int .u64]
theorem Car.dec {ps : List PC} (h : kindsOf ps = Car.kinds) : ∃ x : Car, ps = x.enc := by
  obtain ⟨a0, r0, rfl, h0⟩ := open_i h
  obtain ⟨a1, r1, rfl, h1⟩ := open_i h0
  obtain ⟨a2, r2, rfl, h2⟩ := open_i h1
  obtain ⟨a3, r3, rfl, h3⟩ := open_i h2
  obtain ⟨a4, r4, rfl, h4⟩ := open_i h3
  obtain ⟨a5, r5, rfl, h5⟩ := open_i h4
  obtain ⟨a6, r6, rfl, h6⟩ := open_i h5
  obtain ⟨a7, r7, rfl, h7⟩ := open_b h6
  obtain ⟨a8, r8, rfl, h8⟩ := open_b h7
  obtain ⟨a9, r9, rfl, h9⟩ := open_i h8
  obtain ⟨a10, r10, rfl, h10⟩ := open_i h9
  obtain ⟨a11, r11, rfl, h11⟩ := open_b h10
  obtain ⟨a12, r12, rfl, h12⟩ := open_i h11
  obtain ⟨a13, r13, rfl, h13⟩ := open_i h12
  obtain ⟨a14, r14, rfl, h14⟩ := open_i h13
  cases r14 with
  | nil => exact ⟨⟨⟨a0, a1⟩, a2, a3, a4, a5, a6, a7, a8, a9, a10, a11, ⟨a12, a13, a14⟩⟩, rfl⟩
  | cons p q => exact absurd h14 (kinds_cons _ _)
def Cmd.kinds : List LK := [.int .i64, .bool, .bool]
theorem Cmd.dec {ps : List PC} (h : kindsOf ps = Cmd.kinds) : ∃ x : Cmd, ps = x.enc := by
  obtain ⟨a0, r0, rfl, h0⟩ := open_i h
  obtain ⟨a1, r1, rfl, h1⟩ := open_b h0
  obtain ⟨a2, r2, rfl, h2⟩ := open_b h1
  cases r2 with
  | nil => exact ⟨⟨a0, a1, a2⟩, rfl⟩
  | cons p q => exact absurd h2 (kinds_cons _ _)
def GOp.kinds : List LK := [.int .i64, .int .i64, .int .i64, .bool]
theorem GOp.dec {ps : List PC} (h : kindsOf ps = GOp.kinds) : ∃ x : GOp, ps = x.enc := by
  obtain ⟨a0, r0, rfl, h0⟩ := open_i h
  obtain ⟨a1, r1, rfl, h1⟩ := open_i h0
  obtain ⟨a2, r2, rfl, h2⟩ := open_i h1
  obtain ⟨a3, r3, rfl, h3⟩ := open_b h2
  cases r3 with
  | nil => exact ⟨⟨a0, a1, a2, a3⟩, rfl⟩
  | cons p q => exact absurd h3 (kinds_cons _ _)
def COp.kinds : List LK := [.int .i64, .int .i64, .int .i64, .int .i64, .int .i64, .int .i64, .int .i64, .int .i64, .int .i64, .int .i64, .int .i64, .int .i64]
theorem COp.dec {ps : List PC} (h : kindsOf ps = COp.kinds) : ∃ x : COp, ps = x.enc := by
  obtain ⟨a0, r0, rfl, h0⟩ := open_i h
  obtain ⟨a1, r1, rfl, h1⟩ := open_i h0
  obtain ⟨a2, r2, rfl, h2⟩ := open_i h1
  obtain ⟨a3, r3, rfl, h3⟩ := open_i h2
  obtain ⟨a4, r4, rfl, h4⟩ := open_i h3
  obtain ⟨a5, r5, rfl, h5⟩ := open_i h4
  obtain ⟨a6, r6, rfl, h6⟩ := open_i h5
  obtain ⟨a7, r7, rfl, h7⟩ := open_i h6
  obtain ⟨a8, r8, rfl, h8⟩ := open_i h7
  obtain ⟨a9, r9, rfl, h9⟩ := open_i h8
  obtain ⟨a10, r10, rfl, h10⟩ := open_i h9
  obtain ⟨a11, r11, rfl, h11⟩ := open_i h10
  cases r11 with
  | nil => exact ⟨⟨a0, a1, a2, ⟨a3, a4, a5, a6, a7⟩, ⟨a8, a9, a10, a11⟩⟩, rfl⟩
  | cons p q => exact absurd h11 (kinds_cons _ _)
def LOp.kinds : List LK := [.int .i64, .int .i64, .int .i64, .int .i64, .int .i64, .int .i64, .int .i64, .int .i64, .int .i64, .int .i64, .int .i64]
theorem LOp.dec {ps : List PC} (h : kindsOf ps = LOp.kinds) : ∃ x : LOp, ps = x.enc := by
  obtain ⟨a0, r0, rfl, h0⟩ := open_i h
  obtain ⟨a1, r1, rfl, h1⟩ := open_i h0
  obtain ⟨a2, r2, rfl, h2⟩ := open_i h1
  obtain ⟨a3, r3, rfl, h3⟩ := open_i h2
  obtain ⟨a4, r4, rfl, h4⟩ := open_i h3
  obtain ⟨a5, r5, rfl, h5⟩ := open_i h4
  obtain ⟨a6, r6, rfl, h6⟩ := open_i h5
  obtain ⟨a7, r7, rfl, h7⟩ := open_i h6
  obtain ⟨a8, r8, rfl, h8⟩ := open_i h7
  obtain ⟨a9, r9, rfl, h9⟩ := open_i h8
  obtain ⟨a10, r10, rfl, h10⟩ := open_i h9
  cases r10 with
  | nil => exact ⟨⟨a0, ⟨⟨a1, a2, a3, a4, a5⟩, a6, a7, a8, a9, a10⟩⟩, rfl⟩
  | cons p q => exact absurd h10 (kinds_cons _ _)

/-- How a type's cells lie: int kinds and bools, one behind the other. -/
def layOf (P : Program) : Nat → TypeId → Option (List LK)
  | 0, _ => none
  | n + 1, t => match P.underlying t with
    | some .bool => some [.bool]
    | some (.int k) => some [.int k]
    | some (.struct fs) => layFs (fun f => (f.offset, P.cellsOf f.type, layOf P n f.type)) 0 fs.toList
    | _ => none
where layFs (g : Field → Nat × Nat × Option (List LK)) : Nat → List Field → Option (List LK)
  | _, [] => some []
  | at_, f :: r => match g f with
    | (off, sz, some ks) => bif Nat.beq off at_ && Nat.beq sz ks.length then (match layFs g (at_ + ks.length) r with
        | some l => some (ks ++ l)
        | none => none) else none
    | _ => none

def GoodPC (ks : List LK) (cs : List Value) : Prop := ∃ ps : List PC, cs = ps.map PC.val ∧ ps.length = ks.length ∧ kindsOf ps = ks ∧ WfAll ps

theorem kindsOf_append : ∀ {ps qs : List PC}, kindsOf (ps ++ qs) = kindsOf ps ++ kindsOf qs
  | [], qs => rfl
  | p :: r, qs => congrArg (kindOf p :: ·) (kindsOf_append (ps := r))
theorem wfAll_append : ∀ {ps qs : List PC}, WfAll ps → WfAll qs → WfAll (ps ++ qs)
  | [], _, _, h => h
  | _ :: _, _, h, k => ⟨h.1, wfAll_append h.2 k⟩
theorem GoodPC.append {ks ls : List LK} {cs ds : List Value} (h : GoodPC ks cs) (k : GoodPC ls ds) : GoodPC (ks ++ ls) (cs ++ ds) := by
  obtain ⟨ps, rfl, h1, h2, h3⟩ := h
  obtain ⟨qs, rfl, k1, k2, k3⟩ := k
  refine ⟨ps ++ qs, by simp, by simp [h1, k1], ?_, wfAll_append h3 k3⟩
  rw [kindsOf_append, h2, k2]

theorem layFs_open {H : Type} {enc : TypeId × Value → H} {P : Program} {w : World} {base : Nat} {spare : Nat → Bool} {held : Bool} {m n : Nat}
    (ih : ∀ (t : TypeId) (ks : List LK) (cs : List Value) (x : DataW H × List MemPlace), layOf P n t = some ks → P.cellsOf t = ks.length → DataW.trod enc P w base spare held m t cs = some x → GoodPC ks cs) :
    ∀ (fs : List Field) (at_ : Nat) (ks : List LK) (cs : List Value), layOf.layFs (fun f => (f.offset, P.cellsOf f.type, layOf P n f.type)) at_ fs = some ks → cs.length = at_ + ks.length →
      (∀ f ∈ fs, ∃ x, DataW.trod enc P w base spare held m f.type ((cs.drop f.offset).take (P.cellsOf f.type)) = some x) → GoodPC ks (cs.drop at_)
  | [], at_, ks, cs, h, hl, _ => by
    simp only [layOf.layFs, Option.some.injEq] at h
    subst h
    rw [List.drop_of_length_le (by simpa using Nat.le_of_eq hl)]
    exact ⟨[], rfl, rfl, rfl, trivial⟩
  | f :: r, at_, ks, cs, h, hl, hx => by
    unfold layOf.layFs at h
    split at h
    · rename_i off sz ks0 heq
      simp only [Prod.mk.injEq] at heq
      obtain ⟨h1, h2, h3⟩ := heq
      cases hb : (Nat.beq off at_ && Nat.beq sz ks0.length) with
      | false => rw [hb] at h; cases h
      | true =>
        rw [hb] at h
        simp only [cond_true] at h
        rw [Bool.and_eq_true] at hb
        have e1 := Nat.eq_of_beq_eq_true hb.1
        have e2 := Nat.eq_of_beq_eq_true hb.2
        split at h
        · rename_i l hl'
          cases h
          obtain ⟨x, hx0⟩ := hx f (by simp)
          have hg := ih f.type ks0 _ x h3 (by rw [h2, e2]) hx0
          rw [h1, h2, e1, e2] at hg
          have hr := layFs_open ih r (at_ + ks0.length) l cs hl' (by rw [hl]; simp; omega) (fun g hg => hx g (List.mem_cons_of_mem _ hg))
          have := hg.append hr
          rwa [← List.drop_drop, List.take_append_drop] at this
        · cases h
    · cases h

theorem lay_open {H : Type} {enc : TypeId × Value → H} {P : Program} {w : World} {base : Nat} {spare : Nat → Bool} {held : Bool} : ∀ (n m : Nat) (t : TypeId) (ks : List LK) (cs : List Value) (x : DataW H × List MemPlace), layOf P n t = some ks → P.cellsOf t = ks.length → DataW.trod enc P w base spare held m t cs = some x → GoodPC ks cs
  | 0, _, _, _, _, _, h, _, _ => by simp [layOf] at h
  | n + 1, m, t, ks, cs, x, h, hc, hx => by
    unfold layOf at h
    split at h
    · rename_i hu
      cases h
      obtain ⟨b, rfl, _⟩ := DataW.trod_bool hu hx
      exact ⟨[.bool b], rfl, rfl, rfl, trivial, trivial⟩
    · rename_i k hu
      cases h
      obtain ⟨v, rfl, _, hw⟩ := DataW.trod_int hu hx
      exact ⟨[.int k v], rfl, rfl, rfl, hw, trivial⟩
    · rename_i fs hu
      obtain ⟨xs, m', rfl, rfl, hl, hlen, hf⟩ := DataW.trod_struct hu hx
      -- every field is read
      have hfs : ∀ f ∈ fs.toList, ∃ y, DataW.trod enc P w base spare held m' f.type ((cs.drop f.offset).take (P.cellsOf f.type)) = some y := by
        intro f hfm
        obtain ⟨i, hi, rfl⟩ := List.getElem_of_mem hfm
        have hi' : i < fs.size := by simpa using hi
        have := hf i fs[i] (Array.getElem?_eq_getElem hi')
        rw [List.getElem?_eq_getElem (by omega)] at this
        exact ⟨_, by simpa using this⟩
      have := layFs_open (n := n) (m := m') (fun t ks cs x h1 h2 h3 => lay_open n m' t ks cs x h1 h2 h3) fs.toList 0 ks cs h (by rw [hl, hc]; simp) hfs
      simpa using this
    · cases h

/-! ### 2. Arguments -/
theorem RelCs.ofPl {X : Cx} {E : Env} (ps : List PC) : RelCs X E (ps.map .pl) (ps.map PC.val) := RelCs.pl ps

def isStructB (P : Program) (t : TypeId) : Bool := match P.underlying t with
  | some (.struct _) => true
  | _ => false
theorem isStruct_of {P : Program} {t : TypeId} (h : isStructB P t = true) : ∃ fs, P.underlying t = some (.struct fs) := by
  unfold isStructB at h
  split at h
  · rename_i fs hd; exact ⟨fs, hd⟩
  · cases h
/-- A struct of plain cells. -/
theorem openS {H : Type} {enc : TypeId × Value → H} {P : Program} {w : World} {base b0 : Nat} {spare : Nat → Bool} {held : Bool} {r : Reach} {t : TypeId} {v : Value} {d : DataW H} {pl : List MemPlace} {n : Nat} {ks : List LK} (ht0 : isStructB P t = true) (hl : layOf P n t = some ks) (hc : P.cellsOf t = ks.length)
    (hval : Value.okWide P w r b0 t v) (hd : DataW.Trod enc P w base spare held t v d pl) : ∃ ps : List PC, v = .agg (ps.map PC.val).toArray ∧ kindsOf ps = ks ∧ WfAll ps := by
  obtain ⟨fs, ht⟩ := isStruct_of ht0
  unfold Value.okWide at hval
  rw [ht] at hval
  obtain ⟨cs, rfl, _, _⟩ := hval
  obtain ⟨fuel, hf⟩ := hd
  obtain ⟨ps, h1, _, h2, h3⟩ := lay_open n fuel t ks _ _ hl hc hf
  refine ⟨ps, ?_, h2, h3⟩
  have h1 : cs.toList = ps.map PC.val := h1
  rw [← h1]

theorem relS {X : Cx} {E : Env} (ps : List PC) : RelA X E (.one (.agg (ps.map .pl))) (.agg (ps.map PC.val).toArray) := ⟨_, rfl, by simpa using RelCs.pl ps⟩

/-- A slice of such elements, or of numbers. -/
theorem openL {H : Type} {enc : TypeId × Value → H} {P : Program} {w : World} {eid : RTy → TypeId} {b0 : Nat} {r : Reach} {t e : TypeId} {v : Value} {d : DataW H} {pl : List MemPlace} {n : Nat} {ks : List LK} (rt : RTy) (ht : P.underlying t = some (.slice e)) (hl : layOf P n e = some ks) (hc : P.cellsOf e = ks.length) (hsz : P.cellsOf e = rt.sz)
    (hdec : ∀ ps : List PC, kindsOf ps = ks → ∃ x : rt.T, ps = rt.enc x) (hval : Value.okWide P w r b0 t v) (hd : DataW.Trod enc P w 0 (fun _ => true) true t v d pl) (E : Env) :
    ∃ xs : List rt.T, RelA ⟨P, w, eid⟩ E (.one (.c (.ros rt xs))) v ∧ (∀ x ∈ xs, WfAll (rt.enc x)) ∧ xs.length ≤ maxLen := by
  have hcell : ∃ u, v.cells.toList = [u] → True := ⟨v, fun _ => trivial⟩
  obtain ⟨fuel, hf⟩ := hd
  have hone : ∀ c, v.cells.toList = [c] → v = c := by
    intro c hcs
    unfold Value.okWide at hval
    rw [ht] at hval
    cases v <;> first
      | (simp [Value.cells] at hcs; exact hcs)
      | (simp only [Cell.okWide, ht, Cell.ok] at hval; exact hval.elim)
      | skip
    all_goals (simp [Cell.okWide, ht, Cell.ok] at hval)
  rcases Go.Deep.open_slice ht hf with ⟨hcs, _⟩ | ⟨a, len, cap, m, n', D, Pl, hcs, _, hle, hcap, hm, _, hel⟩
  · have := hone _ hcs
    subst this
    refine ⟨[], ⟨none, 0, rfl, Nat.le_refl _, fun i x hx => by simp at hx⟩, fun x hx => by simp at hx, Nat.zero_le _⟩
  · have := hone _ hcs
    subst this
    have hlm : len ≤ m := by rw [hm]; split <;> omega
    by_cases hl0 : len = 0
    · subst hl0
      exact ⟨[], ⟨some a, cap, rfl, Nat.zero_le _, fun i x hx => by simp at hx⟩, fun x hx => by simp at hx, Nat.zero_le _⟩
    have hspot : a.spot = none := by
      obtain ⟨cs', h1, _⟩ := hel 0 (by omega)
      obtain ⟨_, hlen, hcells⟩ := World.cells?_some h1
      have hpos : 0 < P.cellsOf e := by rw [hsz]; exact rt.sz_pos
      have h0 := hcells 0 hpos
      rw [List.getElem?_eq_getElem (by omega)] at h0
      simp only [Nat.zero_mul] at h0
      have e0 : (a.add 0).add 0 = a := by simp [Addr.add]
      rw [e0] at h0
      unfold World.cell? at h0
      split at h0
      · cases hs : a.spot with
        | none => rfl
        | some s => rw [hs] at h0; simp at h0
      · cases h0
    obtain ⟨g, o, rfl⟩ : ∃ g o, a = ⟨g, o, none⟩ := ⟨a.block, a.off, by cases a; simp at hspot; subst hspot; rfl⟩
    have hx : ∀ i, i < len → ∃ x : rt.T, WfAll (rt.enc x) ∧ ∀ (j : Nat) (p : PC), (rt.enc x)[j]? = some p → w.cell? ⟨g, o + (i * rt.sz + j), none⟩ = some p.val := by
      intro i hi
      obtain ⟨cs', h1, h2⟩ := hel i (by omega)
      obtain ⟨ps, rfl, _, hk, hw⟩ := lay_open n n' e ks cs' _ hl hc h2
      obtain ⟨x, rfl⟩ := hdec ps hk
      obtain ⟨_, hlen, hcells⟩ := World.cells?_some h1
      refine ⟨x, hw, fun j p hj => ?_⟩
      have hjl : j < P.cellsOf e := by
        have := (List.getElem?_eq_some_iff.1 hj).1
        rw [RTy.enc_length] at this
        rw [hsz]; exact this
      have := hcells j hjl
      rw [List.getElem?_map, hj, hsz, add_none, add_none, Nat.add_assoc] at this
      exact this
    have : ∀ k, k ≤ len → ∃ xs : List rt.T, xs.length = k ∧ ∀ (i : Nat) (x : rt.T), xs[i]? = some x → WfAll (rt.enc x) ∧ ∀ (j : Nat) (p : PC), (rt.enc x)[j]? = some p → w.cell? ⟨g, o + (i * rt.sz + j), none⟩ = some p.val := by
      intro k
      induction k with
      | zero => intro _; exact ⟨[], rfl, fun i x hx => by simp at hx⟩
      | succ k ih =>
        intro hk
        obtain ⟨xs, hl', hxs⟩ := ih (by omega)
        obtain ⟨y, hy⟩ := hx k (by omega)
        refine ⟨xs ++ [y], by simp [hl'], fun i x hi => ?_⟩
        rw [List.getElem?_append] at hi
        split at hi
        · exact hxs i x hi
        · have hik : i = k := by
            have := (List.getElem?_eq_some_iff.1 hi).1
            simp at this; omega
          subst hik
          rw [hl'] at hi
          simp at hi
          subst hi; exact hy
    obtain ⟨xs, hl', hxs⟩ := this len (Nat.le_refl _)
    refine ⟨xs, ⟨some ⟨g, o, none⟩, cap, by rw [hl'], by omega, fun i x hi => ⟨g, o, rfl, (hxs i x hi).2⟩⟩, fun x hx => ?_, by rw [hl']; omega⟩
    obtain ⟨i, hi, rfl⟩ := List.getElem_of_mem hx
    exact (hxs i _ (List.getElem?_eq_getElem hi)).1

/-! ### 3. What a law's call leaves -/
theorem Ext.below {w w' : World} {ρ ρ' : Nat → Value} {M' : Mem} (h : Ext w ρ [] w' ρ' M') : Below w.heap.size w w' :=
  ⟨h.os, h.tape, h.output, h.size, fun k hk => h.frame k hk fun b hb => by simp [Owns] at hb⟩

theorem Rep.empty {P : Program} {eid : RTy → TypeId} (ρ : Nat → Value) (w : World) : Rep ⟨P, w, eid⟩ ρ [] w :=
  ⟨fun b x hb => by simp at hb, fun b b' g h => by simp [Owns] at h, fun b g h => by simp [Owns] at h, fun _ _ => rfl, Nat.le_refl _⟩

section
variable {H : Type} {enc : TypeId × Value → H} {P : Program}
theorem trodAll_stays (hl : laidOutB P = true) {W W' : World} (hb : Below W.heap.size W W') {sp' : Nat → Bool} : ∀ {ts : List TypeId} {vs : List Value} {ds : List (DataW H)} {ps : List MemPlace}, (∀ t ∈ ts, P.readableRec t = true ∧ t < P.types.size) →
    DataW.TrodAll enc P W 0 (fun _ => true) true ts vs ds ps → (∀ p ∈ ps, p.block < W.heap.size) → (∀ p ∈ ps, sp' p.block = true) → DataW.TrodAll enc P W' 0 sp' true ts vs ds ps
  | [], vs, ds, ps, _, h, _, _ => by
    obtain ⟨rfl, rfl, rfl⟩ := trodAll_nil h
    exact h
  | t :: ts, vs, ds, ps, hr, h, hlt, hs => by
    obtain ⟨v, vs1, d, ds1, a, b, rfl, rfl, rfl, h1, h2⟩ := trodAll_cons h
    refine ⟨a, b, WideElems.Trod_stays hl (hr t (by simp)).1 (hr t (by simp)).2 h1 (fun x hx => hb.same (hlt x (by simp [hx]))) (fun x hx => hs x (by simp [hx])), trodAll_stays hl hb (fun t ht => hr t (List.mem_cons_of_mem _ ht)) h2 (fun x hx => hlt x (by simp [hx])) (fun x hx => hs x (by simp [hx])), rfl⟩

def readAll (P : Program) (f : Func) : Bool := f.params.toList.all fun t => P.readableRec t && Nat.blt t P.types.size
theorem law_post {f : Func} {s : ChangeSpec} {apart fresh handsOn again : Bool} {W W' : World} {args : Array Value} {ds gs : List (DataW H)} {before : List MemPlace} {tb : TypeId}
    (hW : DataW.Whole enc P f.params.toList s.vars apart W args.toList ds gs before) (hvars : s.vars = []) (hb : Below W.heap.size W W') (hl : laidOutB P = true)
    (hrd0 : readAll P f = true) (hres : f.resultTypes = #[tb]) (htb : P.underlying tb = some .bool)
    (hfn : (s.fn H (ds ++ gs)).results = [.lit (.bool true)]) (hargs : (s.fn H (ds ++ gs)).args = ds) (hvs : (s.fn H (ds ++ gs)).vars = []) : s.post enc P f apart fresh handsOn again W args (.bool true) W' := by
  have hrd : ∀ t ∈ f.params.toList, P.readableRec t = true ∧ t < P.types.size := fun t ht => by
    have := List.all_eq_true.1 hrd0 t ht
    simpa [Nat.blt_eq] using this
  have hW0 := hW
  obtain ⟨pa, pv, hA, hV, hps, hz, hn⟩ := hW
  rw [hvars] at hV
  obtain ⟨rfl, rfl⟩ := trodVars_none hV
  rw [List.append_nil] at hps
  subst hps
  have hlt : ∀ p ∈ before, p.block < W.heap.size := fun p hp => hW0.lt p hp
  have hrl : (Value.bool true).resultList f.resultTypes.size = [.bool true] := by rw [hres]; rfl
  have hR : ∀ (b : Nat) (sp : Nat → Bool) (hd : Bool), DataW.TrodAll enc P W' b sp hd f.resultTypes.toList ((Value.bool true).resultList f.resultTypes.size) (s.fn H (ds ++ [])).results [] := by
    intro b sp hd
    rw [hrl, hfn, hres]
    exact trodAll_mk1 (shut_bool htb true)
  have hA' : ∀ sp : Nat → Bool, (∀ p ∈ before, sp p.block = true) → DataW.TrodAll enc P W' 0 sp true f.params.toList args.toList (s.fn H (ds ++ [])).args before := by
    intro sp hsp
    rw [hargs]
    exact trodAll_stays hl hb hrd hA hlt hsp
  have hV' : ∀ sp : Nat → Bool, DataW.TrodVars enc P W' sp s.vars (s.fn H (ds ++ [])).vars [] := by
    intro sp
    rw [hvs, hvars]; exact rfl
  refine ⟨ds, [], before, [], before, [], hW0, hR _ _ _, hA' _ (fun p hp => by simpa using hlt p hp), hV' _, World.keptBut_mono (fun p hp => ⟨hp, ?_⟩) (hb.frame (· ∈ before)), fun _ => ⟨?_, _, _, ([] ++ before) ++ [], ⟨[] ++ before, [], trodAll_append (hA' _ (fun _ _ => rfl)) (hR _ _ _), hV' _, rfl, ?_, ?_⟩, ?_⟩⟩
  · exact .inr (.inl hp)
  · intro j t r hj hv
    rw [hrl] at hv
    rw [hres] at hj
    cases j with
    | zero =>
      simp at hj hv
      subst hj; subst hv
      exact okWide_bool_mk htb true
    | succ j => simp at hj
  · intro b off hp
    have hp' : MemPlace.cell b off ∈ before := by simpa using hp
    rw [hb.frozen (p := ⟨b, off, none⟩) (hlt _ hp')]
    exact hz b off hp'
  · intro ha
    have := hn ha
    simpa using this
  · intro p hp _
    simpa using hp
end
end Lw
