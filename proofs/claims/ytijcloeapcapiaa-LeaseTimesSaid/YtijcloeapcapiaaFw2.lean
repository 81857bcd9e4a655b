/- The abstract machine: what operations, regions and code do to abstract frames and memories. Plain functions; they are run by the kernel. -/
import Derived.Test.YtijcloeapcapiaaFw1
set_option linter.unusedVariables false
namespace Lw
open Go

/-! ### 1. Types, operands -/
structure FI where
  (off sz : Nat)
  agg : Bool
structure TI where
  size : Nat
  agg : Bool := false
  zero : List Cell := []
  flds : List FI := []
  elem : Option RTy := none
  ik : Option IntKind := none
  isBool : Bool := false
  isPtr : Bool := false
  isStr : Bool := false
  eqk : Bool := false
abbrev Tys := TypeId → Option TI

def constAV : Value → AV
  | .int k n => .one (.c (.pl (.int k n)))
  | .bool b => .one (.c (.pl (.bool b)))
  | .string s => .one (.c (.pl (.str s)))
  | .pointer none => .one (.c .nilp)
  | .slice none 0 0 => .one (.c .es)
  | _ => .junk

def oe (F : List AV) : Operand → AV
  | .tmp t => F.getD t .undef
  | .const v => constAV v
  | .func f => .fn f [] []
  | .global _ => .junk

def putF (F : List AV) : Option Tmp → AV → List AV
  | some d, v => F.set d v
  | none, _ => F

def cellsOf : AV → Option (List Cell)
  | .one (.c x) => some [x]
  | .one (.agg xs) => some xs
  | _ => none
def v1Of : AV → Option V1
  | .one x => some x
  | _ => none
def v1sOf : List AV → Option (List V1)
  | [] => some []
  | a :: r => match v1Of a, v1sOf r with
    | some x, some xs => some (x :: xs)
    | _, _ => none
def plOf : List Cell → Option (List PC)
  | [] => some []
  | .pl c :: r => match plOf r with
    | some cs => some (c :: cs)
    | none => none
  | _ => none
def setMany {α : Type} : List α → Nat → List α → List α
  | vs, _, [] => vs
  | vs, i, c :: cs => setMany (vs.set i c) (i + 1) cs
def ofCells (ti : TI) (cs : List Cell) : Option AV := match ti.agg with
  | true => some (.one (.agg cs))
  | false => match cs with
    | [c] => some (.one (.c c))
    | _ => none


/-! ### 2. Rows of one type -/
def RTy.cast : (t u : RTy) → List t.T → Option (List u.T)
  | .int, .int, xs => some xs | .bool, .bool, xs => some xs | .u8, .u8, xs => some xs | .u64, .u64, xs => some xs | .str, .str, xs => some xs
  | .car, .car, xs => some xs | .wait, .wait, xs => some xs | .ask, .ask, xs => some xs | .lease, .lease, xs => some xs | .msg, .msg, xs => some xs
  | .event, .event, xs => some xs | .call, .call, xs => some xs | .cmd, .cmd, xs => some xs | .gop, .gop, xs => some xs | .cop, .cop, xs => some xs | .lop, .lop, xs => some xs
  | _, _, _ => none
def RTy.same : RTy → RTy → Bool
  | .int, .int | .bool, .bool | .u8, .u8 | .u64, .u64 | .str, .str | .car, .car | .wait, .wait | .ask, .ask | .lease, .lease | .msg, .msg
  | .event, .event | .call, .call | .cmd, .cmd | .gop, .gop | .cop, .cop | .lop, .lop => true
  | _, _ => false

/-- An element out of its cells. -/
def RTy.mk (t : RTy) (cs : List PC) : Option t.T :=
  bif cs.length == t.sz then t.puts t.zero 0 cs else none
/-- What a slice value holds, as elements of type t: how many, and the elements. -/
def srcOf (M : Mem) (t : RTy) : AV → Option (List t.T)
  | .one (.c .es) => some []
  | .one (.c (.row b)) => match M.at b with
    | .row u xs => u.cast t xs
    | _ => none
  | .one (.c (.sub b lo len)) => match M.at b with
    | .row u xs => (u.cast t xs).map fun ys => (ys.drop lo).take len
    | _ => none
  | .one (.c (.ros u xs)) => u.cast t xs
  | _ => none
def live (M : Mem) (b : Nat) : Bool := match M.at b with
  | .dead => false
  | _ => true

def lenOf (M : Mem) : AV → Option Nat
  | .one (.c .es) => some 0
  | .one (.c (.row b)) => match M.at b with
    | .row _ xs => some xs.length
    | .hidR _ n => some n
    | _ => none
  | .one (.c (.sub b _ len)) => bif live M b then some len else none
  | .one (.c (.ros _ xs)) => some xs.length
  | _ => none

/-! ### 3. Operations -/
structure OR where
  pre : Option Prop
  val : AV
  mem : Mem
def orOf (M : Mem) : Option AV → Option OR
  | some v => some ⟨none, v, M⟩
  | none => none
/-- What must hold, if anything, and what follows. -/
def andP : Option Prop → Prop → Prop
  | none, q => q
  | some p, q => p ∧ q
def preOk : Option Prop → Prop
  | none => True
  | some p => p
theorem andP_iff (p : Option Prop) (q : Prop) : andP p q ↔ (preOk p ∧ q) := by
  cases p <;> simp [andP, preOk]
def ifT (b : Bool) (q : Prop) : Prop := match b with
  | true => q
  | false => False

structure SR where
  pre : Option Prop
  val : AV
  upd : Option Mem
  new : Mem
/-- Several answers, by tests. -/
inductive BT (α : Type) : Type where
  | leaf (r : α)
  | br (c : Bool) (a b : BT α)
def BT.ev {α : Type} : BT α → α
  | .leaf r => r
  | .br c a b => cond c a.ev b.ev
def BT.map {α β : Type} (f : α → β) : BT α → BT β
  | .leaf r => .leaf (f r)
  | .br c a b => .br c (a.map f) (b.map f)
/-- One of two ways. -/
def cnd (b : Bool) (p q : Prop) : Prop := match b with
  | true => p
  | false => q
theorem cnd_intro {b : Bool} {p q : Prop} (h : b = true → p) (k : b = false → q) : cnd b p q := by
  cases b
  · exact k rfl
  · exact h rfl
def BT.then {α : Type _} (k : α → Prop) : BT α → Prop
  | .leaf r => k r
  | .br c a b => cnd c (a.then k) (b.then k)
def BT.any {α : Type} (p : α → Bool) : BT α → Bool
  | .leaf r => p r
  | .br _ a b => a.any p || b.any p
abbrev Summ := List AV → Mem → Option (BT SR)
abbrev Gam := FuncId → Option Summ

def Cell.ids : Cell → List Nat
  | .ptr b _ _ | .row b | .sub b _ _ => [b]
  | _ => []
def cidsL : List Cell → List Nat
  | [] => []
  | c :: r => c.ids ++ cidsL r
def V1.ids : V1 → List Nat
  | .c x => x.ids
  | .agg xs => cidsL xs
def v1idsL : List V1 → List Nat
  | [] => []
  | c :: r => c.ids ++ v1idsL r
def AV.ids : AV → List Nat
  | .one x => x.ids
  | .tup xs => v1idsL xs
  | .fn _ a b => v1idsL a ++ v1idsL b
  | .rop cs => cidsL cs
  | _ => []
def avidsL : List AV → List Nat
  | [] => []
  | c :: r => c.ids ++ avidsL r
def Blk.ids : Blk → List Nat
  | .cells vs => cidsL vs
  | _ => []
def memN (b : Nat) : List Nat → Bool
  | [] => false
  | x :: r => bif Nat.beq x b then true else memN b r
def reach (M : Mem) : Nat → List Nat → List Nat → List Nat
  | 0, _, acc => acc
  | _ + 1, [], acc => acc
  | n + 1, b :: todo, acc => bif memN b acc then reach M n todo acc else reach M n (todo ++ (M.at b).ids) (acc ++ [b])
def allIn (sel : List Nat) : List Nat → Bool
  | [] => true
  | b :: r => memN b sel && allIn sel r
def closedIn (M : Mem) (sel : List Nat) : List Nat → Bool
  | [] => true
  | b :: r => live M b && (Nat.blt b M.length && (allIn sel (M.at b).ids && closedIn M sel r))
def nodupN : List Nat → Bool
  | [] => true
  | b :: r => !(memN b r) && nodupN r
def inv (sel : List Nat) (b : Nat) : Nat := go 0 sel
where go (k : Nat) : List Nat → Nat
  | [] => k + b
  | x :: r => bif Nat.beq x b then k else go (k + 1) r
def writeBack : Mem → List Nat → List Blk → Mem
  | M, b :: sel, x :: l => writeBack (M.set b x) sel l
  | M, _, _ => M
def back (sel : List Nat) (L : Nat) (i : Nat) : Nat := bif Nat.blt i sel.length then sel.getD i 0 else L + (i - sel.length)

def fullArgs (F : List AV) (callee : AV) (args : List Operand) : Option (FuncId × List AV) :=
  match callee with
  | .fn f first caps => some (f, first.map .one ++ (args.map (oe F) ++ caps.map .one))
  | _ => none

/-- What a caller sees of an answer: sel names the blocks that were handed over. -/
def outOf (M : Mem) (sel : List Nat) (r : SR) : OR :=
  match r.upd with
  | none => ⟨r.pre, r.val.map (back sel M.length), M ++ r.new.map (Blk.map (back sel M.length))⟩
  | some l => ⟨r.pre, r.val.map (back sel M.length), writeBack M sel (l.map (Blk.map (back sel M.length))) ++ r.new.map (Blk.map (back sel M.length))⟩
/-- A call of what has a summary. -/
def acall (Γ : Gam) (M : Mem) (f : FuncId) (xs : List AV) : Option (BT OR) :=
  match Γ f with
  | none => none
  | some S =>
    let sel := reach M 300 (avidsL xs) []
    bif allIn sel (avidsL xs) && (closedIn M sel sel && nodupN sel) then
      match S (xs.map (AV.map (inv sel))) (sel.map fun b => (M.at b).map (inv sel)) with
      | none => none
      | some t => some (t.map (outOf M sel))
    else none

def bitsI (op : BinOp) (k : IntKind) (x y : Int) : Int :=
  let a := BitVec.ofInt k.bits x
  let b := BitVec.ofInt k.bits y
  k.wrap (match op with
    | .and => a &&& b
    | .or => a ||| b
    | .xor => a ^^^ b
    | _ => a &&& ~~~b : BitVec k.bits).toNat
def shI (k : IntKind) (left : Bool) (x : Int) (y : Int) : Int :=
  let n := min y.toNat k.bits
  bif left then k.wrap (x * 2 ^ n) else x.fdiv (2 ^ n)

def pcEq : PC → PC → Bool
  | .int _ a, .int _ b => a == b
  | .bool a, .bool b => a == b
  | .str a, .str b => a == b
  | _, _ => false
def pcsEq : List PC → List PC → Bool
  | [], [] => true
  | [a], [b] => pcEq a b
  | a :: r, b :: s => pcEq a b && pcsEq r s
  | _, _ => false
def kEq : IntKind → IntKind → Bool
  | .i8, .i8 | .i16, .i16 | .i32, .i32 | .i64, .i64 | .u8, .u8 | .u16, .u16 | .u32, .u32 | .u64, .u64 => true
  | _, _ => false
def sameKind : PC → PC → Bool
  | .int j _, .int k _ => kEq j k
  | .bool _, .bool _ => true
  | .str _, .str _ => true
  | _, _ => false
def sameKinds : List PC → List PC → Bool
  | [], [] => true
  | a :: r, b :: s => sameKind a b && sameKinds r s
  | _, _ => false

def kindsFit (zero : List Cell) (ps qs : List PC) : Bool := match plOf zero with
  | some zs => sameKinds zs ps && sameKinds zs qs
  | none => false

def boolAV (b : Bool) : AV := .one (.c (.pl (.bool b)))
def intAV (k : IntKind) (n : Int) : AV := .one (.c (.pl (.int k n)))

def isLivePtr (M : Mem) : Cell → Bool
  | .ptr b _ _ => live M b
  | _ => false

def aint (op : BinOp) (j : IntKind) (a : Int) (k : IntKind) (b : Int) : Option (Option Prop × AV) :=
  match op with
  | .shl => some (some (0 ≤ b), intAV j (shI j true a b))
  | .shr => some (some (0 ≤ b), intAV j (shI j false a b))
  | op => bif kEq j k then match op with
    | .add => some (none, intAV j (j.wrap (a + b)))
    | .sub => some (none, intAV j (j.wrap (a - b)))
    | .mul => some (none, intAV j (j.wrap (a * b)))
    | .quo => some (some (b ≠ 0), intAV j (j.wrap (a.tdiv b)))
    | .rem => some (some (b ≠ 0), intAV j (a.tmod b))
    | .and => some (none, intAV j (bitsI .and j a b))
    | .or => some (none, intAV j (bitsI .or j a b))
    | .xor => some (none, intAV j (bitsI .xor j a b))
    | .andNot => some (none, intAV j (bitsI .andNot j a b))
    | .eql => some (none, boolAV (a == b))
    | .neq => some (none, boolAV (a != b))
    | .lss => some (none, boolAV (decide (a < b)))
    | .leq => some (none, boolAV (decide (a ≤ b)))
    | .gtr => some (none, boolAV (decide (a > b)))
    | .geq => some (none, boolAV (decide (a ≥ b)))
    | _ => none
  else none

def abin (τ : Tys) (M : Mem) (op : BinOp) (t : TypeId) (x y : AV) : Option (Option Prop × AV) :=
  match x, y with
  | .one (.c (.pl (.int j a))), .one (.c (.pl (.int k b))) => aint op j a k b
  | .one (.c (.pl (.bool a))), .one (.c (.pl (.bool b))) => match τ t with
    | some ti => bif ti.isBool then match op with
        | .eql => some (none, boolAV (a == b))
        | .neq => some (none, boolAV (!(a == b)))
        | _ => none
      else none
    | none => none
  | .one (.agg xs), .one (.agg ys) => match τ t, plOf xs, plOf ys with
    | some ti, some ps, some qs => bif ti.eqk && kindsFit ti.zero ps qs then match op with
        | .eql => some (none, boolAV (pcsEq ps qs))
        | .neq => some (none, boolAV (!(pcsEq ps qs)))
        | _ => none
      else none
    | _, _, _ => none
  | .one (.c p), .one (.c q) => match τ t with
    | some ti => bif ti.isPtr then match p, q, op with
        | .nilp, .nilp, .eql => some (none, boolAV true)
        | .nilp, .nilp, .neq => some (none, boolAV false)
        | p, .nilp, .eql => bif isLivePtr M p then some (none, boolAV false) else none
        | p, .nilp, .neq => bif isLivePtr M p then some (none, boolAV true) else none
        | _, _, _ => none
      else none
    | none => none
  | _, _ => none

def mm (mx : Bool) (x y : Int) : Int := bif mx then (if y > x then y else x) else (if y < x then y else x)
def foldMM (mx : Bool) (k : IntKind) : Int → List AV → Option Int
  | x, [] => some x
  | x, .one (.c (.pl (.int j y))) :: r => bif kEq j k then foldMM mx k (mm mx x y) r else none
  | _, _ => none

def bigRow : Nat := 1073741824

/-- Put the parts of a struct into its cells. -/
def fillS (flds : List FI) : List Cell → List (Nat × AV) → Option (List Cell)
  | cs, [] => some cs
  | cs, (i, v) :: r => match flds[i]?, cellsOf v with
    | some fi, some vs => bif Nat.beq vs.length fi.sz && Nat.ble (fi.off + vs.length) cs.length then fillS flds (setMany cs fi.off vs) r else none
    | _, _ => none
/-- The parts of a slice literal, in order, none left out. -/
def elemsOf (t : RTy) : Nat → List (Nat × AV) → Option (List t.T)
  | _, [] => some []
  | k, (i, v) :: r => bif Nat.beq i k then match cellsOf v with
      | some cs => match plOf cs with
        | some ps => match t.mk ps, elemsOf t (k + 1) r with
          | some x, some xs => some (x :: xs)
          | _, _ => none
        | none => none
      | none => none
    else none

def intOf? : AV → Option Int
  | .one (.c (.pl (.int _ n))) => some n
  | _ => none
def optInt (F : List AV) : Option Operand → Option (Option Int)
  | none => some none
  | some x => match intOf? (oe F x) with
    | some n => some (some n)
    | none => none

/-- xs, from place lo on replaced by ys. -/
def splice {α : Type} (xs : List α) (lo : Nat) (ys : List α) : List α := xs.take lo ++ ys ++ xs.drop (lo + ys.length)

/-- The rows' type of an append. -/
def rowT (τ : Tys) (tys : List TypeId) : Option RTy := match tys with
  | [t, u] => bif Nat.beq t u then match τ t with
      | some ti => ti.elem
      | none => none
    else none
  | _ => none
/-- A place to write to: the row, what it holds, from where on, how many. -/
def dstOf (M : Mem) (t : RTy) : AV → Option (Nat × List t.T × Nat × Nat)
  | .one (.c (.row b)) => match M.at b with
    | .row u xs => (u.cast t xs).map fun ys => (b, ys, 0, ys.length)
    | _ => none
  | .one (.c (.sub b lo len)) => match M.at b with
    | .row u xs => (u.cast t xs).map fun ys => (b, ys, lo, len)
    | _ => none
  | _ => none
/-- How many elements a whole slice has. -/
def lenW (M : Mem) : AV → Option Nat
  | .one (.c .es) => some 0
  | .one (.c (.row b)) => match M.at b with
    | .row _ xs => some xs.length
    | _ => none
  | .one (.c (.ros _ xs)) => some xs.length
  | _ => none
def abuiltin (τ : Tys) (F : List AV) (M : Mem) (b : Builtin) (tys : List TypeId) (xs : List AV) : Option OR :=
  match b, xs with
  | .len, [x] => match tys with
    | t :: _ => match τ t with
      | some ti => match ti.elem with
        | some _ => match lenOf M x with
          | some n => some ⟨none, intAV .i64 n, M⟩
          | none => none
        | none => match x with
          | .one (.c (.pl (.str s))) => bif ti.isStr then some ⟨none, intAV .i64 s.size, M⟩ else none
          | _ => none
      | none => none
    | [] => none
  | .min, .one (.c (.pl (.int k x))) :: r => match foldMM false k x r with
    | some n => some ⟨none, intAV k n, M⟩
    | none => none
  | .max, .one (.c (.pl (.int k x))) :: r => match foldMM true k x r with
    | some n => some ⟨none, intAV k n, M⟩
    | none => none
  | .append, [.one (.c .es), x] => match rowT τ tys with
    | some rt => match srcOf M rt x with
      | some ys => some ⟨some (ys.length ≤ bigRow), .one (.c (.row M.length)), M ++ [.row rt ys]⟩
      | none => none
    | none => none
  | .append, [.one (.c (.row b)), x] => match rowT τ tys with
    | some rt => match srcOf M rt (.one (.c (.row b))), srcOf M rt x with
      | some zs, some ys => some ⟨some (zs.length + ys.length ≤ bigRow), .one (.c (.row M.length)), M.set b .dead ++ [.row rt (zs ++ ys)]⟩
      | _, _ => none
    | none => none
  | .append, [.one (.c (.sub b 0 k)), .one (.c (.sub b' j m))] => match rowT τ tys with
    | some rt => match srcOf M rt (.one (.c (.row b))), srcOf M rt (.one (.c (.sub b' j m))) with
      | some zs, some ys => bif Nat.beq b b' then some ⟨some (k + m ≤ zs.length ∧ ys.length = m), .one (.c (.sub b 0 (k + m))), M.set b (.row rt (splice zs k ys))⟩ else none
      | _, _ => none
    | none => none
  | .copy, [d, s] => match tys with
    | t :: _ => match τ t with
      | some ti => match ti.elem with
        | some rt => match dstOf M rt d, srcOf M rt s with
          | some (b, zs, lo, len), some ys => some ⟨some (lo + len ≤ zs.length), intAV .i64 (Nat.min ys.length len), M.set b (.row rt (splice zs lo (ys.take len)))⟩
          | _, _ => none
        | none => none
      | none => none
    | [] => none
  | .clear, [d] => match tys with
    | t :: _ => match τ t with
      | some ti => match ti.elem with
        | some rt => match dstOf M rt d with
          | some (b, zs, lo, len) => some ⟨some (lo + len ≤ zs.length), .tup [], M.set b (.row rt (splice zs lo (List.replicate len rt.zero)))⟩
          | none => none
        | none => none
      | none => none
    | [] => none
  | _, _ => none

def aslice (M : Mem) (rt : RTy) (x : AV) (lo hi : Option Int) : Option (Option Prop × AV) :=
  match x with
  | .one (.c (.row b)) => match M.at b with
    | .row u xs => bif u.same rt then
        let h := hi.getD xs.length
        let l := lo.getD 0
        some (some ((0 ≤ l ∧ l ≤ h) ∧ h ≤ xs.length), .one (.c (.sub b l.toNat (h.toNat - l.toNat))))
      else none
    | _ => none
  | .one (.c (.sub b 0 len)) => match M.at b with
    | .row u xs => bif u.same rt then
        let h := hi.getD len
        let l := lo.getD 0
        some (some ((0 ≤ l ∧ l ≤ h) ∧ h ≤ xs.length), .one (.c (.sub b l.toNat (h.toNat - l.toNat))))
      else none
    | _ => none
  | _ => none

def fldVal : Bool → List Cell → Option AV
  | true, cs => some (.one (.agg cs))
  | false, [c] => some (.one (.c c))
  | false, _ => none
def aop (τ : Tys) (o : Oper) (F : List AV) (M : Mem) : Option OR :=
  match o.op with
  | .move x | .assign x => some ⟨none, oe F x, M⟩
  | .pick c a b => match oe F c with
    | .one (.c (.pl (.bool t))) => match oe F a, oe F b with
      | .one (.c (.pl (.bool x))), .one (.c (.pl (.bool y))) => some ⟨none, boolAV (cond t x y), M⟩
      | _, _ => none
    | _ => none
  | .alloc t => match τ t with
    | some ti => match ti.zero with
      | z :: zs => some ⟨none, .one (.c (.ptr M.length 0 0)), M ++ [.cells (z :: zs)]⟩
      | [] => none
    | none => none
  | .box _ x => match cellsOf (oe F x) with
    | some cs => some ⟨none, .one (.c (.ptr M.length 0 0)), M ++ [.cells cs]⟩
    | none => none
  | .build t ps => match τ t with
    | some ti => match ti.flds, ti.zero with
      | f :: fs, z :: zs => match fillS (f :: fs) (z :: zs) (ps.toList.map fun p => (p.1, oe F p.2)) with
        | some cs => some ⟨none, .one (.agg cs), M⟩
        | none => none
      | _, _ => none
    | none => none
  | .buildSlice t len ps => match τ t with
    | some ti => match ti.elem with
      | some rt => match elemsOf rt 0 (ps.toList.map fun p => (p.1, oe F p.2)) with
        | some xs => bif Nat.beq xs.length len && Nat.ble len 100 then some ⟨none, .one (.c (.row M.length)), M ++ [.row rt xs]⟩ else none
        | none => none
      | none => none
    | none => none
  | .load t a => match τ t, oe F a with
    | some ti, .one (.c (.ptr b i off)) => match M.at b with
      | .cells vs => bif Nat.ble (off + ti.size) vs.length then orOf M (ofCells ti ((vs.drop off).take ti.size)) else none
      | .row rt xs => bif Nat.ble (off + ti.size) rt.sz then orOf M (ofCells ti ((((rt.enc (xs.getD i rt.zero)).map .pl).drop off).take ti.size)) else none
      | _ => none
    | some ti, .rop cs => bif Nat.ble ti.size cs.length then orOf M (ofCells ti (cs.take ti.size)) else none
    | _, _ => none
  | .store t a x => match τ t, oe F a, cellsOf (oe F x) with
    | some ti, .one (.c (.ptr b i off)), some cs => bif Nat.beq cs.length ti.size then match M.at b with
        | .cells vs => bif Nat.ble (off + ti.size) vs.length then some ⟨none, .undef, M.set b (.cells (setMany vs off cs))⟩ else none
        | .row rt xs => match plOf cs with
          | some ps => match rt.puts (xs.getD i rt.zero) off ps with
            | some y => some ⟨none, .undef, M.set b (.row rt (xs.set i y))⟩
            | none => none
          | none => none
        | _ => none
      else none
    | _, _, _ => none
  | .nilCheck x => match oe F x with
    | .one (.c (.ptr b i off)) => bif live M b then some ⟨none, oe F x, M⟩ else none
    | .rop cs => some ⟨none, oe F x, M⟩
    | _ => none
  | .binOp op t x y _ => match abin τ M op t (oe F x) (oe F y) with
    | some (p, v) => some ⟨p, v, M⟩
    | none => none
  | .unOp op _ x => match op, oe F x with
    | .not, .one (.c (.pl (.bool b))) => some ⟨none, boolAV (!b), M⟩
    | .neg, .one (.c (.pl (.int k n))) => some ⟨none, intAV k (k.wrap (0 - n)), M⟩
    | _, _ => none
  | .convert s d x => match τ s, τ d, oe F x with
    | some _, some ti, .one (.c (.pl (.int _ n))) => match ti.ik with
      | some k => some ⟨none, intAV k (k.wrap n), M⟩
      | none => none
    | _, _, _ => none
  | .makeFunc (.func f) first caps => match v1sOf (first.toList.map (oe F)), v1sOf (caps.toList.map (oe F)) with
    | some a, some b => some ⟨none, .fn f a b, M⟩
    | _, _ => none
  | .fieldAddr s x f => match τ s with
    | some ti => match ti.flds[f]?, oe F x with
      | some fi, .one (.c (.ptr b i off)) => bif live M b then some ⟨none, .one (.c (.ptr b i (off + fi.off))), M⟩ else none
      | some fi, .rop cs => some ⟨none, .rop (cs.drop fi.off), M⟩
      | _, _ => none
    | none => none
  | .field s x f => match τ s with
    | some ti => match ti.flds[f]?, oe F x with
      | some fi, .one (.agg cs) => bif Nat.ble (fi.off + fi.sz) cs.length then orOf M (fldVal fi.agg ((cs.drop fi.off).take fi.sz)) else none
      | _, _ => none
    | none => none
  | .indexAddr t x ix => match τ t, intOf? (oe F ix) with
    | some ti, some i => match ti.elem, oe F x with
      | some rt, .one (.c (.row b)) => match M.at b with
        | .row u xs => bif u.same rt then some ⟨some (0 ≤ i ∧ i < xs.length), .one (.c (.ptr b i.toNat 0)), M⟩ else none
        | .hidR u n => bif u.same rt then some ⟨some (0 ≤ i ∧ i < n), .one (.c (.ptr b i.toNat 0)), M⟩ else none
        | _ => none
      | some rt, .one (.c (.sub b lo len)) => match M.at b with
        | .row u xs => bif u.same rt then some ⟨some ((0 ≤ i ∧ i < len) ∧ lo + len ≤ xs.length), .one (.c (.ptr b (lo + i.toNat) 0)), M⟩ else none
        | _ => none
      | some rt, .one (.c (.ros u xs)) => bif u.same rt then some ⟨some (0 ≤ i ∧ i < xs.length), .rop ((u.enc (xs.getD i.toNat u.zero)).map .pl), M⟩ else none
      | _, _ => none
    | _, _ => none
  | .extract t i => match oe F t with
    | .tup xs => match xs[i]? with
      | some x => some ⟨none, .one x, M⟩
      | none => none
    | _ => none
  | .slice t x lo hi mx => match mx with
    | none => match τ t, optInt F lo, optInt F hi with
      | some ti, some l, some h => match ti.elem with
        | some rt => match aslice M rt (oe F x) l h with
          | some (p, v) => some ⟨p, v, M⟩
          | none => none
        | none => none
      | _, _, _ => none
    | some m => match τ t, lenW M (oe F x), optInt F lo, optInt F hi, intOf? (oe F m) with
      | some ti, some n, some l, some (some h), some m => match ti.elem with
        | some _ => some ⟨some ((0 ≤ l.getD 0 ∧ l.getD 0 ≤ h) ∧ (h ≤ m ∧ m ≤ n)), .junk, M⟩
        | none => none
      | _, _, _, _, _ => none
  | .makeSlice t l c => match τ t, intOf? (oe F l), intOf? (oe F c) with
    | some ti, some n, some m => match ti.elem with
      | some rt => some ⟨some ((0 ≤ n ∧ n ≤ 1048576) ∧ m = n), .one (.c (.row M.length)), M ++ [.row rt (List.replicate n.toNat rt.zero)]⟩
      | none => none
    | _, _, _ => none
  | .call c => match c.callee with
    | .builtin b => abuiltin τ F M b c.argTypes.toList (c.args.toList.map (oe F))
    | _ => none
  | _ => none

def aopT (Γ : Gam) (τ : Tys) (o : Oper) (F : List AV) (M : Mem) : Option (BT OR) :=
  match o.op with
  | .call c => match c.callee with
    | .value f => match fullArgs F (oe F f) c.args.toList with
      | some (f, xs) => acall Γ M f xs
      | none => none
    | _ => (aop τ o F M).map .leaf
  | .pick c a b => match oe F c with
    | .one (.c (.pl (.bool t))) => some (.br t (.leaf ⟨none, oe F a, M⟩) (.leaf ⟨none, oe F b, M⟩))
    | _ => none
  | _ => (aop τ o F M).map .leaf

/-! ### 4. Regions -/
def guardOf (all : List Oper) (F : List AV) (j : Nat) : Option (Option Bool) :=
  match all[j]? with
  | some o => match o.dst with
    | some d => match F[d]? with
      | some (.one (.c (.pl (.bool b)))) => some (some b)
      | some .undef => some none
      | _ => none
    | none => none
  | none => none

/-- What a guard has turned out to be. -/
def known (all : List Oper) (F : List AV) (j : Nat) (b : Bool) : List AV := match all[j]? with
  | some o => match o.dst with
    | some d => F.set d (.one (.c (.pl (.bool b))))
    | none => F
  | none => F
def sel2 (b want : Bool) (p q : Prop) : Prop := match want with
  | true => cnd b p q
  | false => cnd b q p

/-- A slice held against nil. -/
def nilCmp (τ : Tys) (o : Oper) (F : List AV) (M : Mem) : Option (Bool × Nat) := match o.op with
  | .binOp op t x (.const (.slice none 0 0)) _ => match τ t, lenW M (oe F x) with
    | some ti, some n => match ti.elem with
      | some _ => match op with
        | .eql => some (true, n)
        | .neq => some (false, n)
        | _ => none
      | none => none
    | _, _ => none
  | _ => none
def stepOp (Γ : Gam) (τ : Tys) (o : Oper) (F : List AV) (M : Mem) (k : AV → Mem → Prop) : Prop :=
  match nilCmp τ o F M with
  | some (eq, n) => ∀ c : Bool, (c = true → n = 0) → k (boolAV (c == eq)) M
  | none => match aopT Γ τ o F M with
    | some t => t.then fun x => andP x.pre (k x.val x.mem)
    | none => False
def runOps (Γ : Gam) (τ : Tys) (all : List Oper) : List Oper → List AV → Mem → (List AV → Mem → Prop) → Prop
  | [], F, M, K => K F M
  | o :: r, F, M, K =>
    match o.guard with
    | none => stepOp Γ τ o F M fun v N => runOps Γ τ all r (putF F o.dst v) N K
    | some (j, want) => match guardOf all F j with
      | some (some b) => sel2 b want
          (stepOp Γ τ o (known all F j want) M fun v N => runOps Γ τ all r (putF (known all F j want) o.dst v) N K)
          (runOps Γ τ all r (putF (known all F j (!want)) o.dst .undef) M K)
      | some none => runOps Γ τ all r (putF F o.dst .undef) M K
      | none => False

/-- What of the memory an operation reads, and what it writes. -/
def foot (o : Oper) (F : List AV) (M : Mem) : List Nat × List Nat :=
  match o.op with
  | .load _ a => ((oe F a).ids, [])
  | .store _ a _ => ([], (oe F a).ids)
  | .nilCheck x => ((oe F x).ids, [])
  | .binOp _ _ x y _ => ((oe F x).ids ++ (oe F y).ids, [])
  | .indexAddr _ x _ => ((oe F x).ids, [])
  | .slice _ x _ _ _ => ((oe F x).ids, [])
  | .call c => match c.callee with
    | .builtin .append => match c.args.toList.map (oe F) with
      | [s, x] => (x.ids, s.ids)
      | _ => ([], [])
    | .builtin .copy => match c.args.toList.map (oe F) with
      | [d, s] => (s.ids, d.ids)
      | _ => ([], [])
    | .builtin .clear => ([], avidsL (c.args.toList.map (oe F)))
    | .builtin _ => (avidsL (c.args.toList.map (oe F)), [])
    | .value f => match fullArgs F (oe F f) c.args.toList with
      | some (_, xs) => (reach M 300 (avidsL xs) [], [])
      | none => ([], [])
    | .invoke _ _ => ([], [])
  | _ => ([], [])

def usedT : List Operand → List Tmp
  | [] => []
  | .tmp t :: r => t :: usedT r
  | _ :: r => usedT r

structure Tr where
  dst : Option Tmp
  rdS : List Tmp
  rdM : List Nat
  wrM : List Nat
  mn : List Nat
  kl : List Nat

def restrictF (keep : List Tmp) : Nat → List AV → List AV
  | _, [] => []
  | i, v :: r => (bif memN i keep then v else .junk) :: restrictF keep (i + 1) r
/-- What an operation may look into, what it may only name, and the rest, of which it knows nothing. -/
def viewM (vis mn : List Nat) : Nat → Mem → Mem
  | _, [] => []
  | i, v :: r => (bif memN i vis then v else bif memN i mn then v.hide else .dead) :: viewM vis mn (i + 1) r
/-- The kept blocks and the new ones out of N, the others out of M. -/
def mergeM (keep : List Nat) : Nat → Mem → Mem → Mem
  | _, [], N => N
  | i, v :: r, x :: s => (bif memN i keep then x else v) :: mergeM keep (i + 1) r s
  | i, v :: r, [] => v :: r
/-- Does a call write what it was handed? -/
def writes (Γ : Gam) (o : Oper) (F : List AV) (M : Mem) : Bool := match o.op with
  | .call c => match c.callee with
    | .value f => match fullArgs F (oe F f) c.args.toList with
      | some (f, xs) => match Γ f with
        | some S => match S (xs.map (AV.map (inv (reach M 300 (avidsL xs) [])))) ((reach M 300 (avidsL xs) []).map fun b => (M.at b).map (inv (reach M 300 (avidsL xs) []))) with
          | some t => t.any fun r => r.upd.isSome
          | none => true
        | none => true
      | none => true
    | _ => false
  | _ => false

def range' : Nat → Nat → List Nat
  | _, 0 => []
  | i, n + 1 => i :: range' (i + 1) n

def gslot (all : List Oper) (o : Oper) : List Tmp := match o.guard with
  | none => []
  | some (j, _) => match all[j]? with
    | some p => match p.dst with
      | some d => [d]
      | none => []
    | none => []

/-- The two lists' members, none twice. -/
def unionN : List Nat → List Nat → List Nat
  | [], ys => ys
  | x :: xs, ys => bif memN x ys then unionN xs ys else unionN xs (x :: ys)
def anc1 (acc : List (List Nat)) : List Nat → List Nat → List Nat
  | [], ys => ys
  | e :: r, ys => bif memN e ys then anc1 acc r ys else anc1 acc r (e :: unionN (acc.getD e []) ys)
/-- All that must have gone ahead of operation j. -/
def ancs : List (List Nat) → List Oper → List (List Nat)
  | acc, [] => acc
  | acc, o :: r => ancs (acc ++ [anc1 acc ((o.after.toList.filter (Region.binds .any)).map fun e => e.on) []]) r

def meets (xs : List Nat) : List Nat → Bool
  | [] => false
  | b :: r => memN b xs || meets xs r
def optL : Option Nat → List Nat
  | some d => [d]
  | none => []
def clash (x y : Tr) : Bool :=
  meets (optL x.dst) (y.rdS ++ optL y.dst) || (meets (optL y.dst) x.rdS || (meets x.wrM (y.rdM ++ y.wrM) || (meets y.wrM x.rdM || (meets x.kl y.mn || meets y.kl x.mn))))
/-- Of two operations that are not in order, none writes what the other reads or writes. -/
def okRow (x : Tr) (i : Nat) (an : List (List Nat)) : Nat → List Tr → Bool
  | _, [] => true
  | j, y :: r => (memN i (an.getD j []) || !(clash x y)) && okRow x i an (j + 1) r
def okAll (an : List (List Nat)) : Nat → List Tr → Bool
  | _, [] => true
  | i, x :: r => okRow x i an (i + 1) r && okAll an (i + 1) r
def backward : Nat → List Oper → Bool
  | _, [] => true
  | j, o :: r => ((o.after.toList.filter (Region.binds .any)).all fun e => Nat.blt e.on j) && backward (j + 1) r

structure DR where
  pre : Option Prop
  val : AV
  mem : Mem
  tr : Tr
  ok : Bool
def keptB : Blk → Blk → Bool
  | .cells vs, .cells us => Nat.beq vs.length us.length
  | _, _ => false
def filterN (p : Nat → Bool) : List Nat → List Nat
  | [] => []
  | b :: r => bif p b then b :: filterN p r else filterN p r
def allN (p : Nat → Bool) : List Nat → Bool
  | [] => true
  | b :: r => p b && allN p r
def flatN (f : Nat → List Nat) : List Nat → List Nat
  | [] => []
  | b :: r => f b ++ flatN f r
def drRes (o : Oper) (rdS : List Tmp) (M L : Mem) (vis mn wr : List Nat) (x : OR) : DR :=
  let new := range' M.length (x.mem.length - M.length)
  ⟨x.pre, x.val, mergeM wr 0 M x.mem, ⟨o.dst, rdS, vis, wr ++ new, mn, filterN (fun b => !(keptB (M.at b) (x.mem.at b))) wr ++ new⟩,
    Nat.ble M.length x.mem.length && (allN (fun b => Nat.blt b M.length) mn && (allIn mn wr && (allN (fun c => memN c wr || live x.mem c == live L c) mn &&
      (allN (fun c => Nat.ble M.length c || memN c mn) (x.val.ids) && (allN (fun c => Nat.ble M.length c || memN c mn) (flatN (fun b => (x.mem.at b).ids) (wr ++ new)))))))⟩
def drIn (o : Oper) (F : List AV) (M : Mem) : List Nat × List Nat :=
  match foot o F M with
  | (rd, wr) => (rd ++ wr, avidsL ((usedT o.op.operands.toList).map fun s => F.getD s .undef) ++ ((rd ++ wr) ++ flatN (fun b => (M.at b).ids) (rd ++ wr)))
/-- An operation by what it looks at alone: its answers, what it reads, what it writes. -/
def aopR (Γ : Gam) (τ : Tys) (all : List Oper) (o : Oper) (F : List AV) (M : Mem) : Option (BT DR) :=
  match drIn o F M with
  | (vis, mn) =>
    let F' := restrictF (usedT o.op.operands.toList) 0 F
    let L := viewM vis mn 0 M
    match aopT Γ τ o F' L with
      | some t => some (t.map (drRes o (gslot all o ++ usedT o.op.operands.toList) M L vis mn (bif writes Γ o F' L then vis else (foot o F' L).2)))
      | none => none

def drGo (Γ : Gam) (τ : Tys) (all : List Oper) (o : Oper) (F : List AV) (M : Mem) (k : List AV → Mem → Tr → Prop) : Prop :=
  match aopR Γ τ all o F M with
  | some t => t.then fun x => ifT x.ok (andP x.pre (k (putF F o.dst x.val) x.mem x.tr))
  | none => False
def drSkip (all : List Oper) (o : Oper) (F : List AV) (M : Mem) (k : List AV → Mem → Tr → Prop) : Prop :=
  k (putF F o.dst .undef) M ⟨o.dst, gslot all o, [], [], [], []⟩
def drStep (Γ : Gam) (τ : Tys) (all : List Oper) (o : Oper) (F : List AV) (M : Mem) (k : List AV → Mem → Tr → Prop) : Prop :=
  match o.guard with
  | none => drGo Γ τ all o F M k
  | some (j, want) => match guardOf all F j with
    | some (some b) => sel2 b want (drGo Γ τ all o (known all F j want) M k) (drSkip all o (known all F j (!want)) M k)
    | some none => drSkip all o F M k
    | none => False

def runDraw (Γ : Gam) (τ : Tys) (all : List Oper) (an : List (List Nat)) : List Oper → List AV → Mem → List Tr → (List AV → Mem → Prop) → Prop
  | [], F, M, tr, K => ifT (okAll an 0 tr) (K F M)
  | o :: r, F, M, tr, K => drStep Γ τ all o F M fun F' M' t => runDraw Γ τ all an r F' M' (tr ++ [t]) K

/-! ### 4b. Tests of several parts: what is done only if an earlier part has turned out so -/
def pureOp : Op → Bool
  | .move _ | .assign _ | .pick _ _ _ | .load _ _ | .nilCheck _ | .binOp _ _ _ _ _ | .unOp _ _ _ | .convert _ _ _ | .fieldAddr _ _ _ | .field _ _ _ | .indexAddr _ _ _ | .extract _ _ => true
  | _ => false
def isNilB : Mem → Bool
  | [] => true
  | _ => false
def pureT (Γ : Gam) (τ : Tys) (o : Oper) (F : List AV) (M : Mem) : Option (Option Prop × AV) :=
  match o.op with
  | .call c => match c.callee with
    | .value f => match fullArgs F (oe F f) c.args.toList with
      | some (f, xs) => match Γ f with
        | some S => bif allIn (reach M 300 (avidsL xs) []) (avidsL xs) && (closedIn M (reach M 300 (avidsL xs) []) (reach M 300 (avidsL xs) []) && nodupN (reach M 300 (avidsL xs) [])) then
            match S (xs.map (AV.map (inv (reach M 300 (avidsL xs) [])))) ((reach M 300 (avidsL xs) []).map fun b => (M.at b).map (inv (reach M 300 (avidsL xs) []))) with
            | some (.leaf r) => match r.upd with
              | none => bif isNilB r.new then some (r.pre, r.val.map (back (reach M 300 (avidsL xs) []) M.length)) else none
              | some _ => none
            | _ => none
          else none
        | none => none
      | none => none
    | .builtin .len => match aop τ o F M with
      | some r => some (r.pre, r.val)
      | none => none
    | _ => none
  | op => bif pureOp op then match aop τ o F M with
      | some r => some (r.pre, r.val)
      | none => none
    else none
def andO : Option Prop → Option Prop → Option Prop
  | none, q => q
  | p, none => p
  | some p, some q => some (p ∧ q)
def guardIs (all : List Oper) (F : List AV) (j : Nat) (w : Bool) : Bool := match guardOf all F j with
  | some (some g) => g == w
  | _ => false
def sameG (j : Nat) (w : Bool) (o : Oper) : Bool := match o.guard with
  | some (j', w') => Nat.beq j j' && (w == w')
  | none => false
def runPure (Γ : Gam) (τ : Tys) (all : List Oper) (j : Nat) (w : Bool) : List Oper → List AV → Mem → Option (Option Prop × List AV)
  | [], F, _ => some (none, F)
  | o :: r, F, M => bif sameG j w o && guardIs all F j w then match pureT Γ τ o F M with
      | some (p, v) => match runPure Γ τ all j w r (putF F o.dst v) M with
        | some (q, F') => some (andO p q, F')
        | none => none
      | none => none
    else none
def runUndef (all : List Oper) (j : Nat) (w : Bool) : List Oper → List AV → Option (List AV)
  | [], F => some F
  | o :: r, F => bif sameG j w o && guardIs all F j (!w) then runUndef all j w r (putF F o.dst .undef) else none
def junkAll : List Oper → List AV → List AV
  | [], F => F
  | o :: r, F => junkAll r (putF F o.dst .junk)
def guardTmp (all : List Oper) (j : Nat) : Option Tmp := match all[j]? with
  | some o => o.dst
  | none => none
def isTmp (g : Option Tmp) : Operand → Bool
  | .tmp t => match g with
    | some u => Nat.beq t u
    | none => false
  | _ => false
/-- Both answers of a test whose second part is run only if its first part has come to w. -/
def grpRes (Γ : Gam) (τ : Tys) (all : List Oper) (j : Nat) (w : Bool) (pre : List Oper) (p : Oper) (F : List AV) (M : Mem) : Option (Option Prop × Bool × Bool × Tmp) :=
  match p.op, p.dst, p.guard with
  | .pick c x y, some d, none => bif isTmp (guardTmp all j) c then match runPure Γ τ all j w pre (known all F j w) M, runUndef all j w pre (known all F j (!w)) with
      | some (q, F1), some F0 => bif guardIs all F1 j w && guardIs all F0 j (!w) then match oe F1 (cond w x y), oe F0 (cond w y x) with
          | .one (.c (.pl (.bool a))), .one (.c (.pl (.bool b))) => some (q, a, b, d)
          | _, _ => none
        else none
      | _, _ => none
    else none
  | _, _, _ => none
inductive Item where
  | one (o : Oper)
  | grp (j : Nat) (w : Bool) (pre : List Oper) (p : Oper)
def grpTake (j : Nat) (w : Bool) : List Oper → List Oper × List Oper
  | [] => ([], [])
  | o :: r => bif sameG j w o then match grpTake j w r with
      | (a, b) => (o :: a, b)
    else ([], o :: r)
def itemsF : Nat → List Oper → List Item
  | 0, l => l.map .one
  | _ + 1, [] => []
  | n + 1, o :: r => match o.guard with
    | none => .one o :: itemsF n r
    | some (j, w) => match grpTake j w (o :: r) with
      | (a, p :: b) => .grp j w a p :: itemsF n b
      | (a, []) => a.map .one
def runItems (Γ : Gam) (τ : Tys) (all : List Oper) : List Item → List AV → Mem → (List AV → Mem → Prop) → Prop
  | [], F, M, K => K F M
  | .one o :: r, F, M, K => runOps Γ τ all [o] F M fun F' M' => runItems Γ τ all r F' M' K
  | .grp j w pre p :: r, F, M, K => match guardOf all F j with
    | some (some b) => match grpRes Γ τ all j w pre p F M with
      | some (q, x, y, d) => andP (q.map fun q => b = w → q) (runItems Γ τ all r (putF (junkAll pre F) (some d) (boolAV (cond w (cond b x y) (cond b y x)))) M K)
      | none => runOps Γ τ all (pre ++ [p]) F M fun F' M' => runItems Γ τ all r F' M' K
    | _ => runOps Γ τ all (pre ++ [p]) F M fun F' M' => runItems Γ τ all r F' M' K

/-! ### 5. Code -/
inductive Ex where
  | normal | exit (id : Nat) | ret

/-- The same, told with less: blocks under other names, some forgotten, empty slices as empty rows. -/
structure Le (k0 : Nat) (F : List AV) (M : Mem) (F' : List AV) (M' : Mem) (σ : Nat → Nat) : Prop where
  old : ∀ b, b < k0 → live M' b = true → σ b = b
  len : k0 ≤ M'.length
  flen : F'.length = F.length
  slot : ∀ s, F'.getD s .junk = .junk ∨ ((F'.getD s .junk).map σ = F.getD s .junk)
  blk : ∀ b, live M' b = true → σ b < M.length ∧ (M'.at b).map σ = M.at (σ b)
  inj : ∀ b b', live M' b = true → live M' b' = true → σ b = σ b' → b = b'
  out : ∀ b, M'.length ≤ b → M.length ≤ σ b

inductive XP where
  | slot (s : Nat) (t : RTy)
  | tup (s i : Nat) (t : RTy)
  | blk (b j : Nat) (t : RTy)
def isEs : Cell → Bool
  | .es => true
  | _ => false
def xpand1 : XP → List AV × Mem → Option (List AV × Mem)
  | .slot s t, (F, M) => match F.getD s .junk with
    | .one (.c .es) => some (F.set s (.one (.c (.row M.length))), M ++ [.row t []])
    | _ => none
  | .tup s i t, (F, M) => match F.getD s .junk with
    | .tup xs => match xs[i]? with
      | some (.c .es) => some (F.set s (.tup (xs.set i (.c (.row M.length)))), M ++ [.row t []])
      | _ => none
    | _ => none
  | .blk b j t, (F, M) => match M.at b with
    | .cells vs => match vs[j]? with
      | some .es => some (F, M.set b (.cells (vs.set j (.row M.length))) ++ [.row t []])
      | _ => none
    | _ => none
def xpand : List XP → List AV × Mem → Option (List AV × Mem)
  | [], x => some x
  | p :: r, x => match xpand1 p x with
    | some y => xpand r y
    | none => none

def Wk (k0 : Nat) (F : List AV) (M : Mem) (I : List AV → Mem → Prop) : Prop :=
  ∃ (ps : List XP) (y : List AV × Mem), xpand ps (F, M) = some y ∧ ∃ σ F' M', Le k0 y.1 y.2 F' M' σ ∧ I F' M'

def LoopVC (k0 : Nat) (body : List AV → Mem → (Ex → List AV → Mem → Prop) → Prop) (F : List AV) (M : Mem) (K : Ex → List AV → Mem → Prop) : Prop :=
  ∃ I : Nat → List AV → Mem → Prop, (∃ n, Wk k0 F M (I n)) ∧
    ∀ n F M, I n F M → body F M (fun e F' M' => match e with
      | .normal => ∃ n', n' < n ∧ Wk k0 F' M' (I n')
      | e => K e F' M')

def vc (Γ : Gam) (τ : Tys) (k0 : Nat) : Code → List AV → Mem → (Ex → List AV → Mem → Prop) → Prop
  | .skip, F, M, K => K .normal F M
  | .region _ ops false, F, M, K => runItems Γ τ ops.toList (itemsF ops.size ops.toList) F M (K .normal)
  | .region _ ops true, F, M, K => ifT (backward 0 ops.toList) (runDraw Γ τ ops.toList (ancs [] ops.toList) ops.toList F M [] (K .normal))
  | .seq a b, F, M, K => vc Γ τ k0 a F M fun e F' M' => match e with
    | .normal => vc Γ τ k0 b F' M' K
    | e => K e F' M'
  | .cond c t e, F, M, K => match oe F c with
    | .one (.c (.pl (.bool b))) => cnd b (vc Γ τ k0 t F M K) (vc Γ τ k0 e F M K)
    | _ => False
  | .block id body, F, M, K => vc Γ τ k0 body F M fun e F' M' => match e with
    | .exit j => bif Nat.beq j id then K .normal F' M' else K (.exit j) F' M'
    | e => K e F' M'
  | .loop body, F, M, K => LoopVC k0 (vc Γ τ k0 body) F M K
  | .exit id, F, M, K => K (.exit id) F M
  | .ret, F, M, K => K .ret F M
  | _, _, _, _ => False

def resOf (τ : Tys) (F : List AV) (M : Mem) : ResultVar → Option V1
  | .tmp t => v1Of (F.getD t .junk)
  | .cell a t => match τ t, F.getD a .junk with
    | some ti, .one (.c (.ptr b i off)) => match M.at b with
      | .cells vs => bif Nat.ble (off + ti.size) vs.length then (match ofCells ti ((vs.drop off).take ti.size) with
        | some v => v1Of v
        | none => none) else none
      | _ => none
    | _, _ => none
def ressOf (τ : Tys) (F : List AV) (M : Mem) : List ResultVar → Option (List V1)
  | [] => some []
  | r :: rs => match resOf τ F M r, ressOf τ F M rs with
    | some x, some xs => some (x :: xs)
    | _, _ => none
def tupOf : List V1 → AV
  | [x] => .one x
  | xs => .tup xs

def undefs : Nat → List AV
  | 0 => []
  | n + 1 => .undef :: undefs n

/-- What is to be shown of a function: run from these arguments it comes to the post. -/
def vcFunc (Γ : Gam) (τ : Tys) (f : Func) (xs : List AV) (M : Mem) (post : AV → Mem → Prop) : Prop :=
  match f.body with
  | some c => vc Γ τ M.length c (xs ++ undefs (f.ntmps - xs.length)) M fun e F' M' => match e with
    | .exit _ => False
    | _ => match ressOf τ F' M' f.results.toList with
      | some vs => post (tupOf vs) M'
      | none => False
  | none => False

/-- What a function answers, as its summary says it. -/
def Ends (k0 : Nat) (r : SR) (args : Mem) (v : AV) (M : Mem) : Prop :=
  Wk k0 [v] M fun F' M' => F' = [r.val] ∧ M' = (r.upd.getD args) ++ r.new
def MeetsAt (Γ : Gam) (τ : Tys) (f : Func) (S : Summ) : Prop :=
  ∀ xs M t, S xs M = some t → (∀ l, t.ev.upd = some l → l.length = M.length) ∧ (preOk t.ev.pre → vcFunc Γ τ f xs M (Ends M.length t.ev M))
end Lw
