/- What abstract values, frames and memories stand for in the machine's worlds; what a step may change. -/
import Derived.Test.YtijcloeapcapiaaFw2
set_option linter.unusedVariables false
set_option linter.unusedSimpArgs false
namespace Lw
open Go

/-! ### 1. Values -/
inductive En where
  | out | dead
  | ent (v : Value) (s : Shape)
abbrev Env := Nat → En

structure Cx where
  P : Program
  W0 : World
  eid : RTy → TypeId

def slen : Value → Nat
  | .slice _ n _ => n
  | _ => 0

def RelC (X : Cx) (E : Env) : Cell → Value → Prop
  | .pl c, v => v = c.val
  | .nilp, v => v = .pointer none
  | .ptr b i off, v => match E b with
    | .out => False
    | .dead => v.oneCell' = true
    | .ent u (.cells n) => ∃ g, u = .pointer (some ⟨g, 0, none⟩) ∧ v = .pointer (some ⟨g, off, none⟩) ∧ i = 0
    | .ent u (.row t n) => ∃ g m c, u = .slice (some ⟨g, 0, none⟩) m c ∧ v = .pointer (some ⟨g, i * t.sz + off, none⟩) ∧ i < n
  | .es, v => ∃ a, v = .slice a 0 0
  | .row b, v => match E b with
    | .out => False
    | .dead => v.oneCell' = true
    | .ent u (.row t n) => v = u ∧ ∃ a m c, u = .slice a m c
    | .ent _ _ => False
  | .sub b lo len, v => match E b with
    | .out => False
    | .dead => v.oneCell' = true
    | .ent u (.row t n) => ∃ a cap a', u = .slice a n cap ∧ v = .slice a' len (cap - lo) ∧ lo + len ≤ n ∧ (lo = 0 → a' = a) ∧ (0 < len → a' = a.map fun x => ⟨x.block, lo * t.sz, none⟩)
    | .ent _ _ => False
  | .ros t xs, v => ∃ a c, v = .slice a xs.length c ∧ xs.length ≤ c ∧ ∀ i x, xs[i]? = some x → ∃ g o, a = some ⟨g, o, none⟩ ∧ ∀ j p, (t.enc x)[j]? = some p → X.W0.cell? ⟨g, o + (i * t.sz + j), none⟩ = some p.val
  | .junk, v => v.oneCell' = true

theorem PC.val_one (c : PC) : c.val.oneCell' = true := by cases c <;> rfl

theorem RelC.one {X : Cx} {E : Env} {c : Cell} {v : Value} (h : RelC X E c v) : v.oneCell' = true := by
  cases c <;> simp only [RelC] at h
  case pl c => subst h; exact c.val_one
  case nilp => subst h; rfl
  case es => obtain ⟨a, rfl⟩ := h; rfl
  case ros => obtain ⟨a, c, rfl, _⟩ := h; rfl
  case junk => exact h
  case ptr b i off =>
    split at h
    · exact h.elim
    · exact h
    · obtain ⟨g, _, rfl, _⟩ := h; rfl
    · obtain ⟨g, m, c, _, rfl, _⟩ := h; rfl
  case row b =>
    split at h
    · exact h.elim
    · exact h
    · obtain ⟨rfl, a, m, c, rfl⟩ := h; rfl
    · exact h.elim
  case sub b lo len =>
    split at h
    · exact h.elim
    · exact h
    · obtain ⟨a, cap, a', _, rfl, _⟩ := h; rfl
    · exact h.elim

def RelCs (X : Cx) (E : Env) : List Cell → List Value → Prop
  | [], [] => True
  | c :: r, v :: s => RelC X E c v ∧ RelCs X E r s
  | _, _ => False

def RelV1 (X : Cx) (E : Env) : V1 → Value → Prop
  | .c x, v => RelC X E x v
  | .agg xs, v => ∃ cs : Array Value, v = .agg cs ∧ RelCs X E xs cs.toList

def RelV1s (X : Cx) (E : Env) : List V1 → List Value → Prop
  | [], [] => True
  | c :: r, v :: s => RelV1 X E c v ∧ RelV1s X E r s
  | _, _ => False

def RelA (X : Cx) (E : Env) : AV → Value → Prop
  | .one x, v => RelV1 X E x v
  | .tup xs, v => ∃ vs : Array Value, v = .tuple vs ∧ RelV1s X E xs vs.toList
  | .fn f a b, v => ∃ a' b' : Array Value, v = .func (.func f) a' b' ∧ RelV1s X E a a'.toList ∧ RelV1s X E b b'.toList
  | .rop cs, v => ∃ g o, v = .pointer (some ⟨g, o, none⟩) ∧ ∀ j c, cs[j]? = some c → ∃ p, c = .pl p ∧ X.W0.cell? ⟨g, o + j, none⟩ = some p.val
  | .undef, v => v = undef
  | .junk, _ => True

def RelF (X : Cx) (E : Env) : List AV → List Value → Prop
  | [], [] => True
  | c :: r, v :: s => RelA X E c v ∧ RelF X E r s
  | _, _ => False

/-- E' tells of the same blocks, or says that they are gone. -/
def Env.to (E E' : Env) : Prop := ∀ b, E b = .out ∨ E' b = .dead ∨ E' b = E b

theorem Env.to_refl (E : Env) : E.to E := fun b => .inr (.inr rfl)
theorem Env.to_trans {E E' E'' : Env} (h : E.to E') (k : E'.to E'') : E.to E'' := by
  intro b
  rcases h b with h1 | h1 | h1
  · exact .inl h1
  · rcases k b with k1 | k1 | k1
    · rw [h1] at k1; cases k1
    · exact .inr (.inl k1)
    · exact .inr (.inl (k1.trans h1))
  · rcases k b with k1 | k1 | k1
    · exact .inl (h1 ▸ k1)
    · exact .inr (.inl k1)
    · exact .inr (.inr (k1.trans h1))

theorem RelC.to {X : Cx} {E E' : Env} (hE : E.to E') {c : Cell} {v : Value} (h : RelC X E c v) : RelC X E' c v := by
  have h1 := h.one
  cases c <;> simp only [RelC] at h ⊢ <;> try exact h
  case ptr b i off =>
    rcases hE b with k | k | k
    · rw [k] at h; exact h.elim
    · rw [k]; exact h1
    · rw [k]; exact h
  case row b =>
    rcases hE b with k | k | k
    · rw [k] at h; exact h.elim
    · rw [k]; exact h1
    · rw [k]; exact h
  case sub b lo len =>
    rcases hE b with k | k | k
    · rw [k] at h; exact h.elim
    · rw [k]; exact h1
    · rw [k]; exact h

theorem RelCs.to {X : Cx} {E E' : Env} (hE : E.to E') : ∀ {cs : List Cell} {vs : List Value}, RelCs X E cs vs → RelCs X E' cs vs
  | [], [], _ => trivial
  | _ :: _, _ :: _, h => ⟨h.1.to hE, RelCs.to hE h.2⟩
  | [], _ :: _, h => h.elim
  | _ :: _, [], h => h.elim
theorem RelV1.to {X : Cx} {E E' : Env} (hE : E.to E') {c : V1} {v : Value} (h : RelV1 X E c v) : RelV1 X E' c v := by
  cases c
  case c x => exact RelC.to hE h
  case agg xs => obtain ⟨cs, hv, hr⟩ := h; exact ⟨cs, hv, hr.to hE⟩
theorem RelV1s.to {X : Cx} {E E' : Env} (hE : E.to E') : ∀ {cs : List V1} {vs : List Value}, RelV1s X E cs vs → RelV1s X E' cs vs
  | [], [], _ => trivial
  | _ :: _, _ :: _, h => ⟨h.1.to hE, RelV1s.to hE h.2⟩
  | [], _ :: _, h => h.elim
  | _ :: _, [], h => h.elim
theorem RelA.to {X : Cx} {E E' : Env} (hE : E.to E') {c : AV} {v : Value} (h : RelA X E c v) : RelA X E' c v := by
  cases c
  case one x => exact RelV1.to hE h
  case tup xs => obtain ⟨vs, hv, hr⟩ := h; exact ⟨vs, hv, hr.to hE⟩
  case fn f a b => obtain ⟨a', b', hv, h1, h2⟩ := h; exact ⟨a', b', hv, h1.to hE, h2.to hE⟩
  case rop cs => exact h
  case undef => exact h
  case junk => trivial
theorem RelF.to {X : Cx} {E E' : Env} (hE : E.to E') : ∀ {cs : List AV} {vs : List Value}, RelF X E cs vs → RelF X E' cs vs
  | [], [], _ => trivial
  | _ :: _, _ :: _, h => ⟨h.1.to hE, RelF.to hE h.2⟩
  | [], _ :: _, h => h.elim
  | _ :: _, [], h => h.elim

/-! ### 2. Under other names -/
theorem RelC_map {X : Cx} {E : Env} {σ : Nat → Nat} (c : Cell) (v : Value) : RelC X E (c.map σ) v ↔ RelC X (fun b => E (σ b)) c v := by
  cases c <;> exact Iff.rfl
theorem RelCs_map {X : Cx} {E : Env} {σ : Nat → Nat} : ∀ (cs : List Cell) (vs : List Value), RelCs X E (cs.map (Cell.map σ)) vs ↔ RelCs X (fun b => E (σ b)) cs vs
  | [], [] => Iff.rfl
  | [], _ :: _ => Iff.rfl
  | _ :: _, [] => Iff.rfl
  | c :: r, v :: s => and_congr (RelC_map c v) (RelCs_map r s)
theorem RelV1_map {X : Cx} {E : Env} {σ : Nat → Nat} (c : V1) (v : Value) : RelV1 X E (c.map σ) v ↔ RelV1 X (fun b => E (σ b)) c v := by
  cases c
  case c x => exact RelC_map x v
  case agg xs => exact exists_congr fun cs => and_congr Iff.rfl (RelCs_map xs cs.toList)
theorem RelV1s_map {X : Cx} {E : Env} {σ : Nat → Nat} : ∀ (cs : List V1) (vs : List Value), RelV1s X E (cs.map (V1.map σ)) vs ↔ RelV1s X (fun b => E (σ b)) cs vs
  | [], [] => Iff.rfl
  | [], _ :: _ => Iff.rfl
  | _ :: _, [] => Iff.rfl
  | c :: r, v :: s => and_congr (RelV1_map c v) (RelV1s_map r s)
theorem rop_map {cs : List Cell} {σ : Nat → Nat} (X : Cx) (g o : Nat) :
    (∀ j c, (cs.map (Cell.map σ))[j]? = some c → ∃ p, c = .pl p ∧ X.W0.cell? ⟨g, o + j, none⟩ = some p.val) ↔ (∀ j c, cs[j]? = some c → ∃ p, c = .pl p ∧ X.W0.cell? ⟨g, o + j, none⟩ = some p.val) := by
  constructor
  · intro h j c hc
    obtain ⟨p, hp, hw⟩ := h j (c.map σ) (by simp [hc])
    refine ⟨p, ?_, hw⟩
    cases c <;> simp [Cell.map] at hp ⊢
    exact hp
  · intro h j c hc
    simp only [List.getElem?_map, Option.map_eq_some_iff] at hc
    obtain ⟨d, hd, rfl⟩ := hc
    obtain ⟨p, rfl, hw⟩ := h j d hd
    exact ⟨p, rfl, hw⟩
theorem RelA_map {X : Cx} {E : Env} {σ : Nat → Nat} (c : AV) (v : Value) : RelA X E (c.map σ) v ↔ RelA X (fun b => E (σ b)) c v := by
  cases c
  case one x => exact RelV1_map x v
  case tup xs => exact exists_congr fun vs => and_congr Iff.rfl (RelV1s_map xs vs.toList)
  case fn f a b => exact exists_congr fun a' => exists_congr fun b' => and_congr Iff.rfl (and_congr (RelV1s_map a a'.toList) (RelV1s_map b b'.toList))
  case rop cs => exact exists_congr fun g => exists_congr fun o => and_congr Iff.rfl (rop_map X g o)
  case undef => exact Iff.rfl
  case junk => exact Iff.rfl
theorem RelF_map {X : Cx} {E : Env} {σ : Nat → Nat} : ∀ (cs : List AV) (vs : List Value), RelF X E (cs.map (AV.map σ)) vs ↔ RelF X (fun b => E (σ b)) cs vs
  | [], [] => Iff.rfl
  | [], _ :: _ => Iff.rfl
  | _ :: _, [] => Iff.rfl
  | c :: r, v :: s => and_congr (RelA_map c v) (RelF_map r s)

/-! ### 3. Lists -/
theorem RelCs.length {X : Cx} {E : Env} : ∀ {cs : List Cell} {vs : List Value}, RelCs X E cs vs → vs.length = cs.length
  | [], [], _ => rfl
  | _ :: _, _ :: _, h => congrArg (· + 1) (RelCs.length h.2)
  | [], _ :: _, h => h.elim
  | _ :: _, [], h => h.elim
theorem RelCs.get {X : Cx} {E : Env} : ∀ {cs : List Cell} {vs : List Value}, RelCs X E cs vs → ∀ (i : Nat) (c : Cell), cs[i]? = some c → ∃ v, vs[i]? = some v ∧ RelC X E c v
  | [], [], _, i, c, hc => by simp at hc
  | c :: _, v :: _, h, 0, d, hd => by simp at hd; subst hd; exact ⟨v, rfl, h.1⟩
  | _ :: _, _ :: _, h, i + 1, d, hd => by simpa using RelCs.get h.2 i d (by simpa using hd)
  | [], _ :: _, h, _, _, _ => h.elim
  | _ :: _, [], h, _, _, _ => h.elim
theorem RelCs.drop {X : Cx} {E : Env} : ∀ {cs : List Cell} {vs : List Value} (n : Nat), RelCs X E cs vs → RelCs X E (cs.drop n) (vs.drop n)
  | _, _, 0, h => h
  | [], [], _ + 1, _ => trivial
  | _ :: _, _ :: _, n + 1, h => by simpa using RelCs.drop n h.2
  | [], _ :: _, _ + 1, h => h.elim
  | _ :: _, [], _ + 1, h => h.elim
theorem RelCs.take {X : Cx} {E : Env} : ∀ {cs : List Cell} {vs : List Value} (n : Nat), RelCs X E cs vs → RelCs X E (cs.take n) (vs.take n)
  | _, _, 0, h => by simp [RelCs]
  | [], [], _ + 1, _ => trivial
  | _ :: _, _ :: _, n + 1, h => ⟨h.1, RelCs.take n h.2⟩
  | [], _ :: _, _ + 1, h => h.elim
  | _ :: _, [], _ + 1, h => h.elim
theorem RelCs.set {X : Cx} {E : Env} {c : Cell} {v : Value} (hc : RelC X E c v) : ∀ {cs : List Cell} {vs : List Value} (i : Nat), RelCs X E cs vs → RelCs X E (cs.set i c) (vs.set i v)
  | [], [], _, _ => trivial
  | _ :: _, _ :: _, 0, h => ⟨hc, h.2⟩
  | _ :: _, _ :: _, i + 1, h => ⟨h.1, RelCs.set hc i h.2⟩
  | [], _ :: _, _, h => h.elim
  | _ :: _, [], _, h => h.elim
theorem RelCs.setMany {X : Cx} {E : Env} : ∀ {ds : List Cell} {us : List Value}, RelCs X E ds us → ∀ {cs : List Cell} {vs : List Value} (i : Nat), RelCs X E cs vs → RelCs X E (setMany cs i ds) (setMany vs i us)
  | [], [], _, _, _, _, h => h
  | _ :: _, _ :: _, hd, _, _, i, h => RelCs.setMany hd.2 (i + 1) (h.set hd.1 i)
  | [], _ :: _, h, _, _, _, _ => h.elim
  | _ :: _, [], h, _, _, _, _ => h.elim
theorem RelCs.one {X : Cx} {E : Env} : ∀ {cs : List Cell} {vs : List Value}, RelCs X E cs vs → ∀ v ∈ vs, v.oneCell' = true
  | [], [], _, v, hv => by simp at hv
  | _ :: _, u :: _, h, v, hv => by
    rcases List.mem_cons.1 hv with rfl | hv
    · exact h.1.one
    · exact RelCs.one h.2 v hv
  | [], _ :: _, h, _, _ => h.elim
  | _ :: _, [], h, _, _ => h.elim
theorem RelCs.pl {X : Cx} {E : Env} : ∀ (ps : List PC), RelCs X E (ps.map .pl) (ps.map PC.val)
  | [] => trivial
  | p :: r => ⟨rfl, RelCs.pl r⟩
theorem RelCs.append {X : Cx} {E : Env} : ∀ {cs : List Cell} {vs : List Value} {ds : List Cell} {us : List Value}, RelCs X E cs vs → RelCs X E ds us → RelCs X E (cs ++ ds) (vs ++ us)
  | [], [], _, _, _, h => h
  | _ :: _, _ :: _, _, _, h, k => ⟨h.1, RelCs.append h.2 k⟩
  | [], _ :: _, _, _, h, _ => h.elim
  | _ :: _, [], _, _, h, _ => h.elim
theorem plOf_eq : ∀ {cs : List Cell} {ps : List PC}, plOf cs = some ps → cs = ps.map .pl
  | [], ps, h => by simp [plOf] at h; subst h; rfl
  | c :: r, ps, h => by
    cases c <;> simp only [plOf] at h <;> try cases h
    case pl p =>
      split at h
      · rename_i qs hq
        cases h
        rw [plOf_eq hq]; rfl
      · cases h
theorem RelCs.vals {X : Cx} {E : Env} : ∀ {ps : List PC} {vs : List Value}, RelCs X E (ps.map .pl) vs → vs = ps.map PC.val
  | [], [], _ => rfl
  | p :: r, v :: s, h => by
    have h1 : v = p.val := h.1
    rw [List.map_cons, h1, RelCs.vals h.2]
  | [], _ :: _, h => h.elim
  | _ :: _, [], h => h.elim

theorem RelF.length {X : Cx} {E : Env} : ∀ {cs : List AV} {vs : List Value}, RelF X E cs vs → vs.length = cs.length
  | [], [], _ => rfl
  | _ :: _, _ :: _, h => congrArg (· + 1) (RelF.length h.2)
  | [], _ :: _, h => h.elim
  | _ :: _, [], h => h.elim
theorem RelF.get {X : Cx} {E : Env} : ∀ {cs : List AV} {vs : List Value}, RelF X E cs vs → ∀ (i : Nat) (c : AV), cs[i]? = some c → ∃ v, vs[i]? = some v ∧ RelA X E c v
  | [], [], _, i, c, hc => by simp at hc
  | c :: _, v :: _, h, 0, d, hd => by simp at hd; subst hd; exact ⟨v, rfl, h.1⟩
  | _ :: _, _ :: _, h, i + 1, d, hd => by simpa using RelF.get h.2 i d (by simpa using hd)
  | [], _ :: _, h, _, _, _ => h.elim
  | _ :: _, [], h, _, _, _ => h.elim
theorem RelF.set {X : Cx} {E : Env} {c : AV} {v : Value} (hc : RelA X E c v) : ∀ {cs : List AV} {vs : List Value} (i : Nat), RelF X E cs vs → RelF X E (cs.set i c) (vs.set i v)
  | [], [], _, _ => trivial
  | _ :: _, _ :: _, 0, h => ⟨hc, h.2⟩
  | _ :: _, _ :: _, i + 1, h => ⟨h.1, RelF.set hc i h.2⟩
  | [], _ :: _, _, h => h.elim
  | _ :: _, [], _, h => h.elim
theorem RelF.append {X : Cx} {E : Env} : ∀ {cs : List AV} {vs : List Value} {ds : List AV} {us : List Value}, RelF X E cs vs → RelF X E ds us → RelF X E (cs ++ ds) (vs ++ us)
  | [], [], _, _, _, h => h
  | _ :: _, _ :: _, _, _, h, k => ⟨h.1, RelF.append h.2 k⟩
  | [], _ :: _, _, _, h, _ => h.elim
  | _ :: _, [], _, _, h, _ => h.elim
theorem RelF.undefs {X : Cx} {E : Env} : ∀ n, RelF X E (undefs n) (List.replicate n undef)
  | 0 => trivial
  | n + 1 => ⟨rfl, RelF.undefs n⟩
theorem RelF.v1s {X : Cx} {E : Env} : ∀ {cs : List V1} {vs : List Value}, RelV1s X E cs vs → RelF X E (cs.map .one) vs
  | [], [], _ => trivial
  | _ :: _, _ :: _, h => ⟨h.1, RelF.v1s h.2⟩
  | [], _ :: _, h => h.elim
  | _ :: _, [], h => h.elim
theorem RelF.ofOp {X : Cx} {E : Env} {F : List AV} {ρ : Operand → Value} (h : ∀ x, RelA X E (oe F x) (ρ x)) : ∀ (xs : List Operand), RelF X E (xs.map (oe F)) (xs.map ρ)
  | [] => trivial
  | x :: r => ⟨h x, RelF.ofOp h r⟩
theorem RelV1s.get {X : Cx} {E : Env} : ∀ {cs : List V1} {vs : List Value}, RelV1s X E cs vs → ∀ (i : Nat) (c : V1), cs[i]? = some c → ∃ v, vs[i]? = some v ∧ RelV1 X E c v
  | [], [], _, i, c, hc => by simp at hc
  | c :: _, v :: _, h, 0, d, hd => by simp at hd; subst hd; exact ⟨v, rfl, h.1⟩
  | _ :: _, _ :: _, h, i + 1, d, hd => by simpa using RelV1s.get h.2 i d (by simpa using hd)
  | [], _ :: _, h, _, _, _ => h.elim
  | _ :: _, [], h, _, _, _ => h.elim
theorem v1sOf_rel {X : Cx} {E : Env} : ∀ {as : List AV} {vs : List Value} {xs : List V1}, v1sOf as = some xs → RelF X E as vs → RelV1s X E xs vs
  | [], vs, xs, h, k => by
    simp [v1sOf] at h; subst h
    cases vs
    · trivial
    · exact k.elim
  | a :: r, vs, xs, h, k => by
    cases vs with
    | nil => exact k.elim
    | cons v s =>
      cases a <;> simp only [v1sOf, v1Of] at h <;> try cases h
      case one x =>
        split at h
        · rename_i ys hx hy
          cases hx
          cases h
          exact ⟨k.1, v1sOf_rel hy k.2⟩
        · cases h

/-! ### 4. Memories -/
def envOf (ρ : Nat → Value) (M : Mem) : Env := fun b => match M[b]? with
  | none => .out
  | some x => match x.shape with
    | some s => .ent (ρ b) s
    | none => .dead

def vals (t : RTy) (xs : List t.T) : List Value := (xs.map fun x => (t.enc x).map PC.val).flatten

def RepB (X : Cx) (E : Env) (w : World) (u : Value) : Blk → Prop
  | .cells vs => ∃ g cs e, u = .pointer (some ⟨g, 0, none⟩) ∧ w.heap[g]? = some (.cells cs e (0, 0)) ∧ RelCs X E vs cs.toList
  | .row t xs => (xs = [] ∧ ∃ a, u = .slice a 0 0) ∨ ∃ g cap cur, u = .slice (some ⟨g, 0, none⟩) xs.length cap ∧ 0 < cap ∧ w.heap[g]? = some (.cells cur (X.eid t) (0, 0)) ∧ xs.length ≤ cap ∧ cap ≤ maxLen ∧
      cur.size = cap * t.sz ∧ cur.toList.take (xs.length * t.sz) = vals t xs
  | .hidC n => ∃ g, u = .pointer (some ⟨g, 0, none⟩)
  | .hidR t n => (n = 0 ∧ ∃ a, u = .slice a 0 0) ∨ ∃ g cap, u = .slice (some ⟨g, 0, none⟩) n cap ∧ 0 < cap ∧ n ≤ cap
  | .dead => True

def blkOf : Value → Option Nat
  | .pointer (some a) => some a.block
  | .slice (some a) _ (_ + 1) => some a.block
  | _ => none

def Owns (ρ : Nat → Value) (M : Mem) (b g : Nat) : Prop := match M[b]? with
  | some (.cells _) => blkOf (ρ b) = some g
  | some (.row _ _) => blkOf (ρ b) = some g
  | _ => False

structure Rep (X : Cx) (ρ : Nat → Value) (M : Mem) (w : World) : Prop where
  blk : ∀ b x, M[b]? = some x → RepB X (envOf ρ M) w (ρ b) x
  sep : ∀ b b' g, Owns ρ M b g → Owns ρ M b' g → b = b'
  base : ∀ b g, Owns ρ M b g → X.W0.heap.size ≤ g
  ro : ∀ k, k < X.W0.heap.size → w.heap[k]? = X.W0.heap[k]?
  sz : X.W0.heap.size ≤ w.heap.size

structure Ext (w : World) (ρ : Nat → Value) (M : Mem) (w' : World) (ρ' : Nat → Value) (M' : Mem) : Prop where
  len : M.length ≤ M'.length
  os : w'.os = w.os
  tape : w'.tape = w.tape
  output : w'.output = w.output
  size : w.heap.size ≤ w'.heap.size
  frame : ∀ k, k < w.heap.size → (∀ b, ¬ Owns ρ M b k) → w'.heap[k]? = w.heap[k]?
  own : ∀ b g, Owns ρ' M' b g → (∃ b', Owns ρ M b' g) ∨ w.heap.size ≤ g
  keep : (envOf ρ M).to (envOf ρ' M')

theorem Ext.refl (w : World) (ρ : Nat → Value) (M : Mem) : Ext w ρ M w ρ M :=
  ⟨Nat.le_refl _, rfl, rfl, rfl, Nat.le_refl _, fun _ _ _ => rfl, fun b g h => .inl ⟨b, h⟩, Env.to_refl _⟩

theorem Ext.trans {w w' w'' : World} {ρ ρ' ρ'' : Nat → Value} {M M' M'' : Mem} (h : Ext w ρ M w' ρ' M') (k : Ext w' ρ' M' w'' ρ'' M'') : Ext w ρ M w'' ρ'' M'' := by
  refine ⟨Nat.le_trans h.len k.len, k.os.trans h.os, k.tape.trans h.tape, k.output.trans h.output, Nat.le_trans h.size k.size, fun i hi hn => ?_, fun b g hg => ?_, Env.to_trans h.keep k.keep⟩
  · rw [k.frame i (Nat.lt_of_lt_of_le hi h.size) (fun b hb => ?_), h.frame i hi hn]
    rcases h.own b i hb with ⟨b', hb'⟩ | hlt
    · exact hn b' hb'
    · omega
  · rcases k.own b g hg with ⟨b', hb'⟩ | hlt
    · exact h.own b' g hb'
    · exact .inr (Nat.le_trans h.size hlt)

theorem Rep.lt {X : Cx} {ρ : Nat → Value} {M : Mem} {w : World} (h : Rep X ρ M w) {b g : Nat} (ho : Owns ρ M b g) : g < w.heap.size := by
  unfold Owns at ho
  split at ho
  · rename_i vs hb
    obtain ⟨g', cs, e, hu, hg, _⟩ := h.blk b _ hb
    rw [hu] at ho
    have : g' = g := by simpa [blkOf] using ho
    subst this
    exact (Array.getElem?_eq_some_iff.1 hg).1
  · rename_i t xs hb
    rcases h.blk b _ hb with ⟨_, a, hu⟩ | ⟨g', cap, cur, hu, hc, hg, _⟩
    · rw [hu] at ho
      cases a <;> simp [blkOf] at ho
    · rw [hu] at ho
      obtain ⟨c, rfl⟩ : ∃ c, cap = c + 1 := ⟨cap - 1, by omega⟩
      have : g' = g := by simpa [blkOf] using ho
      subst this
      exact (Array.getElem?_eq_some_iff.1 hg).1
  · exact ho.elim

theorem envOf_lt {ρ : Nat → Value} {M : Mem} {b : Nat} : envOf ρ M b = .out ↔ M.length ≤ b := by
  unfold envOf
  cases h : M[b]? with
  | none => simpa using h
  | some x =>
    have hlt : b < M.length := (List.getElem?_eq_some_iff.1 h).1
    cases hs : x.shape <;> simp [hs, hlt]
theorem at_of {M : Mem} {b : Nat} {x : Blk} (h : M[b]? = some x) : M.at b = x := by simp [Mem.at, List.getD, h]
theorem of_at {M : Mem} {b : Nat} {x : Blk} (h : M.at b = x) (hx : x ≠ .dead) : M[b]? = some x := by
  unfold Mem.at at h
  rw [List.getD_eq_getElem?_getD] at h
  cases hb : M[b]? with
  | none => rw [hb] at h; exact absurd h.symm hx
  | some y => rw [hb] at h; simp at h; rw [h]

/-- What a world holds at the blocks of a memory is all that counts. -/
theorem RepB.same {X : Cx} {E E' : Env} {w w' : World} {u : Value} {x : Blk} (h : RepB X E w u x) (hE : E.to E')
    (hh : ∀ g, blkOf u = some g → w'.heap[g]? = w.heap[g]?) : RepB X E' w' u x := by
  cases x
  case cells vs =>
    obtain ⟨g, cs, e, rfl, hg, hr⟩ := h
    exact ⟨g, cs, e, rfl, by rw [hh g rfl]; exact hg, hr.to hE⟩
  case row t xs =>
    rcases h with h | ⟨g, cap, cur, rfl, hc, hg, h1, h2, h3, h4⟩
    · exact .inl h
    · refine .inr ⟨g, cap, cur, rfl, hc, ?_, h1, h2, h3, h4⟩
      obtain ⟨c, rfl⟩ : ∃ c, cap = c + 1 := ⟨cap - 1, by omega⟩
      rw [hh g rfl]; exact hg
  case hidC n => exact h
  case hidR t n => exact h
  case dead => trivial
end Lw
