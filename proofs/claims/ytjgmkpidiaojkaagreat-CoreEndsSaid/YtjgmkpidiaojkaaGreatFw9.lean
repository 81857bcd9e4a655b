/- The abstract machine (words, operations). -/
import Derived.Laws.AppendOwn
import Derived.Laws.MakeOwn
import Derived.Laws.OwnMore
import Derived.WalkKit
import Derived.Laws.StructEq
import Derived.Laws.Tables
import Derived.Great.BuildSlice
/- The words of the abstract machine: typed data of the program, abstract cells, values and blocks. Plain definitions; no program in sight. -/
set_option linter.unusedVariables false
namespace Lw
open Go

/-! ### 1. The program's data -/
structure Config where
  (cars floors fleets sessions door dwell hold renew yield queue quota load slack retry cap tries dead window : Int)
structure Door where (state at_ : Int)
structure Stops where (press up down : Int)
structure Call where (floor way : Int)
structure Wait where (floor way car since : Int)
structure Ask where (session fleet src dst mass : Int)
structure Lease where
  ask : Ask
  (car phase until_ renewed granted : Int)
structure Msg where (kind a b c : Int)
structure Event where
  session : Int
  msg : Msg
structure Car where
  door : Door
  (unit way timer just load : Int)
  (blocked broken : Bool)
  (mode target : Int)
  hold : Bool
  stops : Stops
structure Cmd where
  run : Int
  (open_ close : Bool)
structure GOp where
  (kind a b : Int)
  yes : Bool
structure COp where
  (kind a b : Int)
  ask : Ask
  msg : Msg
structure LOp where
  kind : Int
  lease : Lease

/-! ### 2. Plain cells and the types of rows -/
inductive PC where
  | int (k : IntKind) (n : Int)
  | bool (b : Bool)
  | str (s : ByteArray)

def PC.val : PC → Value
  | .int k n => .int k n
  | .bool b => .bool b
  | .str s => .string s

@[inline] def i64 (n : Int) : PC := .int .i64 n

def Config.enc (c : Config) : List PC :=
  [.int .i64 c.cars, .int .i64 c.floors, .int .i64 c.fleets, .int .i64 c.sessions, .int .i64 c.door, .int .i64 c.dwell, .int .i64 c.hold, .int .i64 c.renew, .int .i64 c.yield, .int .i64 c.queue, .int .i64 c.quota, .int .i64 c.load, .int .i64 c.slack, .int .i64 c.retry, .int .i64 c.cap, .int .i64 c.tries, .int .i64 c.dead, .int .i64 c.window]
def Door.enc (d : Door) : List PC := [.int .i64 d.state, .int .i64 d.at_]
def Stops.enc (s : Stops) : List PC := [.int .u64 s.press, .int .u64 s.up, .int .u64 s.down]
def Call.enc (c : Call) : List PC := [.int .i64 c.floor, .int .i64 c.way]
def Wait.enc (x : Wait) : List PC := [.int .i64 x.floor, .int .i64 x.way, .int .i64 x.car, .int .i64 x.since]
def Ask.enc (x : Ask) : List PC := [.int .i64 x.session, .int .i64 x.fleet, .int .i64 x.src, .int .i64 x.dst, .int .i64 x.mass]
def Lease.enc (x : Lease) : List PC :=
  [.int .i64 x.ask.session, .int .i64 x.ask.fleet, .int .i64 x.ask.src, .int .i64 x.ask.dst, .int .i64 x.ask.mass, .int .i64 x.car, .int .i64 x.phase, .int .i64 x.until_, .int .i64 x.renewed, .int .i64 x.granted]
def Msg.enc (x : Msg) : List PC := [.int .i64 x.kind, .int .i64 x.a, .int .i64 x.b, .int .i64 x.c]
def Event.enc (x : Event) : List PC := [.int .i64 x.session, .int .i64 x.msg.kind, .int .i64 x.msg.a, .int .i64 x.msg.b, .int .i64 x.msg.c]
def Car.enc (x : Car) : List PC :=
  [.int .i64 x.door.state, .int .i64 x.door.at_, .int .i64 x.unit, .int .i64 x.way, .int .i64 x.timer, .int .i64 x.just, .int .i64 x.load, .bool x.blocked, .bool x.broken, .int .i64 x.mode, .int .i64 x.target, .bool x.hold, .int .u64 x.stops.press, .int .u64 x.stops.up, .int .u64 x.stops.down]
def Cmd.enc (x : Cmd) : List PC := [.int .i64 x.run, .bool x.open_, .bool x.close]
def GOp.enc (x : GOp) : List PC := [.int .i64 x.kind, .int .i64 x.a, .int .i64 x.b, .bool x.yes]
def COp.enc (x : COp) : List PC :=
  [.int .i64 x.kind, .int .i64 x.a, .int .i64 x.b, .int .i64 x.ask.session, .int .i64 x.ask.fleet, .int .i64 x.ask.src, .int .i64 x.ask.dst, .int .i64 x.ask.mass, .int .i64 x.msg.kind, .int .i64 x.msg.a, .int .i64 x.msg.b, .int .i64 x.msg.c]
def LOp.enc (x : LOp) : List PC :=
  [.int .i64 x.kind, .int .i64 x.lease.ask.session, .int .i64 x.lease.ask.fleet, .int .i64 x.lease.ask.src, .int .i64 x.lease.ask.dst, .int .i64 x.lease.ask.mass, .int .i64 x.lease.car, .int .i64 x.lease.phase, .int .i64 x.lease.until_, .int .i64 x.lease.renewed, .int .i64 x.lease.granted]

inductive RTy where
  | int | bool | u8 | u64 | str | car | wait | ask | lease | msg | event | call | cmd | gop | cop | lop
  deriving DecidableEq

@[reducible] def RTy.T : RTy → Type
  | .int => Int | .bool => Bool | .u8 => Int | .u64 => Int | .str => ByteArray
  | .car => Car | .wait => Wait | .ask => Ask | .lease => Lease | .msg => Msg | .event => Event | .call => Call | .cmd => Cmd
  | .gop => GOp | .cop => COp | .lop => LOp

def RTy.sz : RTy → Nat
  | .int => 1 | .bool => 1 | .u8 => 1 | .u64 => 1 | .str => 1
  | .car => 15 | .wait => 4 | .ask => 5 | .lease => 10 | .msg => 4 | .event => 5 | .call => 2 | .cmd => 3
  | .gop => 4 | .cop => 12 | .lop => 11

def RTy.enc : (t : RTy) → t.T → List PC
  | .int, n => [.int .i64 n] | .bool, b => [.bool b] | .u8, n => [.int .u8 n] | .u64, n => [.int .u64 n] | .str, s => [.str s]
  | .car, x => x.enc | .wait, x => x.enc | .ask, x => x.enc | .lease, x => x.enc | .msg, x => x.enc | .event, x => x.enc | .call, x => x.enc | .cmd, x => x.enc
  | .gop, x => x.enc | .cop, x => x.enc | .lop, x => x.enc

def RTy.zero : (t : RTy) → t.T
  | .int => (0 : Int) | .bool => false | .u8 => (0 : Int) | .u64 => (0 : Int) | .str => ByteArray.empty
  | .car => ⟨⟨0, 0⟩, 0, 0, 0, 0, 0, false, false, 0, 0, false, ⟨0, 0, 0⟩⟩
  | .wait => ⟨0, 0, 0, 0⟩ | .ask => ⟨0, 0, 0, 0, 0⟩ | .lease => ⟨⟨0, 0, 0, 0, 0⟩, 0, 0, 0, 0, 0⟩ | .msg => ⟨0, 0, 0, 0⟩ | .event => ⟨0, ⟨0, 0, 0, 0⟩⟩ | .call => ⟨0, 0⟩ | .cmd => ⟨0, false, false⟩
  | .gop => ⟨0, 0, 0, false⟩ | .cop => ⟨0, 0, 0, ⟨0, 0, 0, 0, 0⟩, ⟨0, 0, 0, 0⟩⟩ | .lop => ⟨0, ⟨⟨0, 0, 0, 0, 0⟩, 0, 0, 0, 0, 0⟩⟩

/-- Put one cell of a car, of a wait .. -/
def Car.put (x : Car) : Nat → PC → Option Car
  | 0, .int .i64 n => some { x with door := { x.door with state := n } }
  | 1, .int .i64 n => some { x with door := { x.door with at_ := n } }
  | 2, .int .i64 n => some { x with unit := n }
  | 3, .int .i64 n => some { x with way := n }
  | 4, .int .i64 n => some { x with timer := n }
  | 5, .int .i64 n => some { x with just := n }
  | 6, .int .i64 n => some { x with load := n }
  | 7, .bool b => some { x with blocked := b }
  | 8, .bool b => some { x with broken := b }
  | 9, .int .i64 n => some { x with mode := n }
  | 10, .int .i64 n => some { x with target := n }
  | 11, .bool b => some { x with hold := b }
  | 12, .int .u64 n => some { x with stops := { x.stops with press := n } }
  | 13, .int .u64 n => some { x with stops := { x.stops with up := n } }
  | 14, .int .u64 n => some { x with stops := { x.stops with down := n } }
  | _, _ => none
def Wait.put (x : Wait) : Nat → PC → Option Wait
  | 0, .int .i64 n => some { x with floor := n }
  | 1, .int .i64 n => some { x with way := n }
  | 2, .int .i64 n => some { x with car := n }
  | 3, .int .i64 n => some { x with since := n }
  | _, _ => none
def Ask.put (x : Ask) : Nat → PC → Option Ask
  | 0, .int .i64 n => some { x with session := n }
  | 1, .int .i64 n => some { x with fleet := n }
  | 2, .int .i64 n => some { x with src := n }
  | 3, .int .i64 n => some { x with dst := n }
  | 4, .int .i64 n => some { x with mass := n }
  | _, _ => none
def Lease.put (x : Lease) : Nat → PC → Option Lease
  | 0, .int .i64 n => some { x with ask := { x.ask with session := n } }
  | 1, .int .i64 n => some { x with ask := { x.ask with fleet := n } }
  | 2, .int .i64 n => some { x with ask := { x.ask with src := n } }
  | 3, .int .i64 n => some { x with ask := { x.ask with dst := n } }
  | 4, .int .i64 n => some { x with ask := { x.ask with mass := n } }
  | 5, .int .i64 n => some { x with car := n }
  | 6, .int .i64 n => some { x with phase := n }
  | 7, .int .i64 n => some { x with until_ := n }
  | 8, .int .i64 n => some { x with renewed := n }
  | 9, .int .i64 n => some { x with granted := n }
  | _, _ => none
def Msg.put (x : Msg) : Nat → PC → Option Msg
  | 0, .int .i64 n => some { x with kind := n }
  | 1, .int .i64 n => some { x with a := n }
  | 2, .int .i64 n => some { x with b := n }
  | 3, .int .i64 n => some { x with c := n }
  | _, _ => none
def Event.put (x : Event) : Nat → PC → Option Event
  | 0, .int .i64 n => some { x with session := n }
  | 1, .int .i64 n => some { x with msg := { x.msg with kind := n } }
  | 2, .int .i64 n => some { x with msg := { x.msg with a := n } }
  | 3, .int .i64 n => some { x with msg := { x.msg with b := n } }
  | 4, .int .i64 n => some { x with msg := { x.msg with c := n } }
  | _, _ => none
def Call.put (x : Call) : Nat → PC → Option Call
  | 0, .int .i64 n => some { x with floor := n }
  | 1, .int .i64 n => some { x with way := n }
  | _, _ => none
def RTy.put : (t : RTy) → t.T → Nat → PC → Option t.T
  | .int, _, 0, .int .i64 n => some n
  | .bool, _, 0, .bool b => some b
  | .u8, _, 0, .int .u8 n => some n
  | .u64, _, 0, .int .u64 n => some n
  | .str, _, 0, .str s => some s
  | .car, x, i, c => x.put i c
  | .wait, x, i, c => x.put i c
  | .ask, x, i, c => x.put i c
  | .lease, x, i, c => x.put i c
  | .msg, x, i, c => x.put i c
  | .event, x, i, c => x.put i c
  | .call, x, i, c => x.put i c
  | _, _, _, _ => none

theorem RTy.enc_length (t : RTy) (x : t.T) : (t.enc x).length = t.sz := by cases t <;> rfl
theorem RTy.sz_pos (t : RTy) : 0 < t.sz := by cases t <;> decide

theorem Car.put_enc {x y : Car} {i : Nat} {c : PC} (h : x.put i c = some y) : y.enc = x.enc.set i c ∧ i < 15 := by
  unfold Car.put at h
  split at h <;> first | (cases h; exact ⟨rfl, by omega⟩) | cases h
theorem Wait.put_enc {x y : Wait} {i : Nat} {c : PC} (h : x.put i c = some y) : y.enc = x.enc.set i c ∧ i < 4 := by
  unfold Wait.put at h
  split at h <;> first | (cases h; exact ⟨rfl, by omega⟩) | cases h
theorem Ask.put_enc {x y : Ask} {i : Nat} {c : PC} (h : x.put i c = some y) : y.enc = x.enc.set i c ∧ i < 5 := by
  unfold Ask.put at h
  split at h <;> first | (cases h; exact ⟨rfl, by omega⟩) | cases h
theorem Lease.put_enc {x y : Lease} {i : Nat} {c : PC} (h : x.put i c = some y) : y.enc = x.enc.set i c ∧ i < 10 := by
  unfold Lease.put at h
  split at h <;> first | (cases h; exact ⟨rfl, by omega⟩) | cases h
theorem Msg.put_enc {x y : Msg} {i : Nat} {c : PC} (h : x.put i c = some y) : y.enc = x.enc.set i c ∧ i < 4 := by
  unfold Msg.put at h
  split at h <;> first | (cases h; exact ⟨rfl, by omega⟩) | cases h
theorem Event.put_enc {x y : Event} {i : Nat} {c : PC} (h : x.put i c = some y) : y.enc = x.enc.set i c ∧ i < 5 := by
  unfold Event.put at h
  split at h <;> first | (cases h; exact ⟨rfl, by omega⟩) | cases h
theorem Call.put_enc {x y : Call} {i : Nat} {c : PC} (h : x.put i c = some y) : y.enc = x.enc.set i c ∧ i < 2 := by
  unfold Call.put at h
  split at h <;> first | (cases h; exact ⟨rfl, by omega⟩) | cases h
theorem RTy.put_enc {t : RTy} {x y : t.T} {i : Nat} {c : PC} (h : t.put x i c = some y) : t.enc y = (t.enc x).set i c ∧ i < t.sz := by
  unfold RTy.put at h
  split at h <;> first | (cases h; exact ⟨rfl, by decide⟩) | exact Car.put_enc h | exact Wait.put_enc h | exact Ask.put_enc h | exact Lease.put_enc h | exact Msg.put_enc h | exact Event.put_enc h | exact Call.put_enc h | cases h

/-- Put several cells, one behind the other. -/
def RTy.puts (t : RTy) : t.T → Nat → List PC → Option t.T
  | x, _, [] => some x
  | x, i, c :: cs => match t.put x i c with
    | some y => t.puts y (i + 1) cs
    | none => none

/-! ### 3. Cells, values, blocks -/
inductive Cell where
  | pl (c : PC)
  | nilp
  | ptr (b i off : Nat)          -- into block b: element i, cell off of it
  | es                           -- a slice without elements and without room
  | row (b : Nat)                -- the whole of row b
  | sub (b lo len : Nat)         -- a part of row b
  | ros (t : RTy) (xs : List t.T) -- a slice that came in, and that nobody writes
  | junk

inductive V1 where
  | c (x : Cell)
  | agg (xs : List Cell)

inductive AV where
  | one (x : V1)
  | tup (xs : List V1)
  | fn (f : FuncId) (first caps : List V1)
  | rop (cells : List Cell)      -- an address in what came in: the cells from there on
  | undef
  | junk

inductive Blk where
  | cells (vs : List Cell)
  | row (t : RTy) (xs : List t.T)
  | hidC (n : Nat)               -- there, but not to be looked into
  | hidR (t : RTy) (n : Nat)
  | dead

abbrev Mem := List Blk

inductive Shape where
  | cells (n : Nat)
  | row (t : RTy) (n : Nat)

def Blk.shape : Blk → Option Shape
  | .cells vs => some (.cells vs.length)
  | .row t xs => some (.row t xs.length)
  | .hidC n => some (.cells n)
  | .hidR t n => some (.row t n)
  | .dead => none

def Blk.hide : Blk → Blk
  | .cells vs => .hidC vs.length
  | .row t xs => .hidR t xs.length
  | b => b

theorem Blk.shape_hide (b : Blk) : b.hide.shape = b.shape := by cases b <;> rfl

def Mem.at (M : Mem) (b : Nat) : Blk := M.getD b .dead

/-! ### 4. Renaming of blocks -/
def Cell.map (σ : Nat → Nat) : Cell → Cell
  | .ptr b i off => .ptr (σ b) i off
  | .row b => .row (σ b)
  | .sub b lo len => .sub (σ b) lo len
  | c => c
def V1.map (σ : Nat → Nat) : V1 → V1
  | .c x => .c (x.map σ)
  | .agg xs => .agg (xs.map (Cell.map σ))
def AV.map (σ : Nat → Nat) : AV → AV
  | .one x => .one (x.map σ)
  | .tup xs => .tup (xs.map (V1.map σ))
  | .fn f a b => .fn f (a.map (V1.map σ)) (b.map (V1.map σ))
  | .rop cs => .rop (cs.map (Cell.map σ))
  | v => v
def Blk.map (σ : Nat → Nat) : Blk → Blk
  | .cells vs => .cells (vs.map (Cell.map σ))
  | b => b

theorem Blk.shape_map (σ : Nat → Nat) (b : Blk) : (b.map σ).shape = b.shape := by cases b <;> simp [Blk.map, Blk.shape]
end Lw
/- The abstract machine: what operations, regions and code do to abstract frames and memories. Plain functions; they are run by the kernel. -/
set_option linter.unusedVariables false
namespace Lw
open Go

/-! ### 1. Types, operands -/
structure FI where
  (off sz : Nat)
  agg : Bool
structure TI where
  size : Nat
  agg : Bool := false
  zero : List Cell := []
  flds : List FI := []
  elem : Option RTy := none
  ik : Option IntKind := none
  isBool : Bool := false
  isPtr : Bool := false
  isStr : Bool := false
  eqk : Bool := false
abbrev Tys := TypeId → Option TI

def constAV : Value → AV
  | .int k n => .one (.c (.pl (.int k n)))
  | .bool b => .one (.c (.pl (.bool b)))
  | .string s => .one (.c (.pl (.str s)))
  | .pointer none => .one (.c .nilp)
  | .slice none 0 0 => .one (.c .es)
  | _ => .junk

def oe (F : List AV) : Operand → AV
  | .tmp t => F.getD t .undef
  | .const v => constAV v
  | .func f => .fn f [] []
  | .global _ => .junk

def putF (F : List AV) : Option Tmp → AV → List AV
  | some d, v => F.set d v
  | none, _ => F

def cellsOf : AV → Option (List Cell)
  | .one (.c x) => some [x]
  | .one (.agg xs) => some xs
  | _ => none
def v1Of : AV → Option V1
  | .one x => some x
  | _ => none
def v1sOf : List AV → Option (List V1)
  | [] => some []
  | a :: r => match v1Of a, v1sOf r with
    | some x, some xs => some (x :: xs)
    | _, _ => none
def plOf : List Cell → Option (List PC)
  | [] => some []
  | .pl c :: r => match plOf r with
    | some cs => some (c :: cs)
    | none => none
  | _ => none
def setMany {α : Type} : List α → Nat → List α → List α
  | vs, _, [] => vs
  | vs, i, c :: cs => setMany (vs.set i c) (i + 1) cs
def ofCells (ti : TI) (cs : List Cell) : Option AV := match ti.agg with
  | true => some (.one (.agg cs))
  | false => match cs with
    | [c] => some (.one (.c c))
    | _ => none


/-! ### 2. Rows of one type -/
def RTy.cast : (t u : RTy) → List t.T → Option (List u.T)
  | .int, .int, xs => some xs | .bool, .bool, xs => some xs | .u8, .u8, xs => some xs | .u64, .u64, xs => some xs | .str, .str, xs => some xs
  | .car, .car, xs => some xs | .wait, .wait, xs => some xs | .ask, .ask, xs => some xs | .lease, .lease, xs => some xs | .msg, .msg, xs => some xs
  | .event, .event, xs => some xs | .call, .call, xs => some xs | .cmd, .cmd, xs => some xs | .gop, .gop, xs => some xs | .cop, .cop, xs => some xs | .lop, .lop, xs => some xs
  | _, _, _ => none
def RTy.same : RTy → RTy → Bool
  | .int, .int | .bool, .bool | .u8, .u8 | .u64, .u64 | .str, .str | .car, .car | .wait, .wait | .ask, .ask | .lease, .lease | .msg, .msg
  | .event, .event | .call, .call | .cmd, .cmd | .gop, .gop | .cop, .cop | .lop, .lop => true
  | _, _ => false

/-- An element out of its cells. -/
def RTy.mk (t : RTy) (cs : List PC) : Option t.T :=
  bif cs.length == t.sz then t.puts t.zero 0 cs else none
/-- What a slice value holds, as elements of type t: how many, and the elements. -/
def srcOf (M : Mem) (t : RTy) : AV → Option (List t.T)
  | .one (.c .es) => some []
  | .one (.c (.row b)) => match M.at b with
    | .row u xs => u.cast t xs
    | _ => none
  | .one (.c (.sub b lo len)) => match M.at b with
    | .row u xs => (u.cast t xs).map fun ys => (ys.drop lo).take len
    | _ => none
  | .one (.c (.ros u xs)) => u.cast t xs
  | _ => none
def live (M : Mem) (b : Nat) : Bool := match M.at b with
  | .dead => false
  | _ => true

def lenOf (M : Mem) : AV → Option Nat
  | .one (.c .es) => some 0
  | .one (.c (.row b)) => match M.at b with
    | .row _ xs => some xs.length
    | .hidR _ n => some n
    | _ => none
  | .one (.c (.sub b _ len)) => bif live M b then some len else none
  | .one (.c (.ros _ xs)) => some xs.length
  | _ => none

/-! ### 3. Operations -/
structure OR where
  pre : Option Prop
  val : AV
  mem : Mem
def orOf (M : Mem) : Option AV → Option OR
  | some v => some ⟨none, v, M⟩
  | none => none
/-- What must hold, if anything, and what follows. -/
def andP : Option Prop → Prop → Prop
  | none, q => q
  | some p, q => p ∧ q
def preOk : Option Prop → Prop
  | none => True
  | some p => p
theorem andP_iff (p : Option Prop) (q : Prop) : andP p q ↔ (preOk p ∧ q) := by
  cases p <;> simp [andP, preOk]
def ifT (b : Bool) (q : Prop) : Prop := match b with
  | true => q
  | false => False

structure SR where
  pre : Option Prop
  val : AV
  upd : Option Mem
  new : Mem
/-- Several answers, by tests. -/
inductive BT (α : Type) : Type where
  | leaf (r : α)
  | br (c : Bool) (a b : BT α)
def BT.ev {α : Type} : BT α → α
  | .leaf r => r
  | .br c a b => cond c a.ev b.ev
def BT.map {α β : Type} (f : α → β) : BT α → BT β
  | .leaf r => .leaf (f r)
  | .br c a b => .br c (a.map f) (b.map f)
/-- One of two ways. -/
def cnd (b : Bool) (p q : Prop) : Prop := match b with
  | true => p
  | false => q
theorem cnd_intro {b : Bool} {p q : Prop} (h : b = true → p) (k : b = false → q) : cnd b p q := by
  cases b
  · exact k rfl
  · exact h rfl
def BT.then {α : Type _} (k : α → Prop) : BT α → Prop
  | .leaf r => k r
  | .br c a b => cnd c (a.then k) (b.then k)
def BT.any {α : Type} (p : α → Bool) : BT α → Bool
  | .leaf r => p r
  | .br _ a b => a.any p || b.any p
abbrev Summ := List AV → Mem → Option (BT SR)
abbrev Gam := FuncId → Option Summ

def Cell.ids : Cell → List Nat
  | .ptr b _ _ | .row b | .sub b _ _ => [b]
  | _ => []
def cidsL : List Cell → List Nat
  | [] => []
  | c :: r => c.ids ++ cidsL r
def V1.ids : V1 → List Nat
  | .c x => x.ids
  | .agg xs => cidsL xs
def v1idsL : List V1 → List Nat
  | [] => []
  | c :: r => c.ids ++ v1idsL r
def AV.ids : AV → List Nat
  | .one x => x.ids
  | .tup xs => v1idsL xs
  | .fn _ a b => v1idsL a ++ v1idsL b
  | .rop cs => cidsL cs
  | _ => []
def avidsL : List AV → List Nat
  | [] => []
  | c :: r => c.ids ++ avidsL r
def Blk.ids : Blk → List Nat
  | .cells vs => cidsL vs
  | _ => []
def memN (b : Nat) : List Nat → Bool
  | [] => false
  | x :: r => bif Nat.beq x b then true else memN b r
def reach (M : Mem) : Nat → List Nat → List Nat → List Nat
  | 0, _, acc => acc
  | _ + 1, [], acc => acc
  | n + 1, b :: todo, acc => bif memN b acc then reach M n todo acc else reach M n (todo ++ (M.at b).ids) (acc ++ [b])
def allIn (sel : List Nat) : List Nat → Bool
  | [] => true
  | b :: r => memN b sel && allIn sel r
def closedIn (M : Mem) (sel : List Nat) : List Nat → Bool
  | [] => true
  | b :: r => live M b && (Nat.blt b M.length && (allIn sel (M.at b).ids && closedIn M sel r))
def nodupN : List Nat → Bool
  | [] => true
  | b :: r => !(memN b r) && nodupN r
def inv (sel : List Nat) (b : Nat) : Nat := go 0 sel
where go (k : Nat) : List Nat → Nat
  | [] => k + b
  | x :: r => bif Nat.beq x b then k else go (k + 1) r
def writeBack : Mem → List Nat → List Blk → Mem
  | M, b :: sel, x :: l => writeBack (M.set b x) sel l
  | M, _, _ => M
def back (sel : List Nat) (L : Nat) (i : Nat) : Nat := bif Nat.blt i sel.length then sel.getD i 0 else L + (i - sel.length)

def fullArgs (F : List AV) (callee : AV) (args : List Operand) : Option (FuncId × List AV) :=
  match callee with
  | .fn f first caps => some (f, first.map .one ++ (args.map (oe F) ++ caps.map .one))
  | _ => none

/-- What a caller sees of an answer: sel names the blocks that were handed over. -/
def outOf (M : Mem) (sel : List Nat) (r : SR) : OR :=
  match r.upd with
  | none => ⟨r.pre, r.val.map (back sel M.length), M ++ r.new.map (Blk.map (back sel M.length))⟩
  | some l => ⟨r.pre, r.val.map (back sel M.length), writeBack M sel (l.map (Blk.map (back sel M.length))) ++ r.new.map (Blk.map (back sel M.length))⟩
/-- A call of what has a summary. -/
def acall (Γ : Gam) (M : Mem) (f : FuncId) (xs : List AV) : Option (BT OR) :=
  match Γ f with
  | none => none
  | some S =>
    let sel := reach M 300 (avidsL xs) []
    bif allIn sel (avidsL xs) && (closedIn M sel sel && nodupN sel) then
      match S (xs.map (AV.map (inv sel))) (sel.map fun b => (M.at b).map (inv sel)) with
      | none => none
      | some t => some (t.map (outOf M sel))
    else none

def bitsI (op : BinOp) (k : IntKind) (x y : Int) : Int :=
  let a := BitVec.ofInt k.bits x
  let b := BitVec.ofInt k.bits y
  k.wrap (match op with
    | .and => a &&& b
    | .or => a ||| b
    | .xor => a ^^^ b
    | _ => a &&& ~~~b : BitVec k.bits).toNat
def shI (k : IntKind) (left : Bool) (x : Int) (y : Int) : Int :=
  let n := min y.toNat k.bits
  bif left then k.wrap (x * 2 ^ n) else x.fdiv (2 ^ n)

def pcEq : PC → PC → Bool
  | .int _ a, .int _ b => a == b
  | .bool a, .bool b => a == b
  | .str a, .str b => a == b
  | _, _ => false
def pcsEq : List PC → List PC → Bool
  | [], [] => true
  | [a], [b] => pcEq a b
  | a :: r, b :: s => pcEq a b && pcsEq r s
  | _, _ => false
def kEq : IntKind → IntKind → Bool
  | .i8, .i8 | .i16, .i16 | .i32, .i32 | .i64, .i64 | .u8, .u8 | .u16, .u16 | .u32, .u32 | .u64, .u64 => true
  | _, _ => false
def sameKind : PC → PC → Bool
  | .int j _, .int k _ => kEq j k
  | .bool _, .bool _ => true
  | .str _, .str _ => true
  | _, _ => false
def sameKinds : List PC → List PC → Bool
  | [], [] => true
  | a :: r, b :: s => sameKind a b && sameKinds r s
  | _, _ => false

def kindsFit (zero : List Cell) (ps qs : List PC) : Bool := match plOf zero with
  | some zs => sameKinds zs ps && sameKinds zs qs
  | none => false

def boolAV (b : Bool) : AV := .one (.c (.pl (.bool b)))
def intAV (k : IntKind) (n : Int) : AV := .one (.c (.pl (.int k n)))

def isLivePtr (M : Mem) : Cell → Bool
  | .ptr b _ _ => live M b
  | _ => false

def aint (op : BinOp) (j : IntKind) (a : Int) (k : IntKind) (b : Int) : Option (Option Prop × AV) :=
  match op with
  | .shl => some (some (0 ≤ b), intAV j (shI j true a b))
  | .shr => some (some (0 ≤ b), intAV j (shI j false a b))
  | op => bif kEq j k then match op with
    | .add => some (none, intAV j (j.wrap (a + b)))
    | .sub => some (none, intAV j (j.wrap (a - b)))
    | .mul => some (none, intAV j (j.wrap (a * b)))
    | .quo => some (some (b ≠ 0), intAV j (j.wrap (a.tdiv b)))
    | .rem => some (some (b ≠ 0), intAV j (a.tmod b))
    | .and => some (none, intAV j (bitsI .and j a b))
    | .or => some (none, intAV j (bitsI .or j a b))
    | .xor => some (none, intAV j (bitsI .xor j a b))
    | .andNot => some (none, intAV j (bitsI .andNot j a b))
    | .eql => some (none, boolAV (a == b))
    | .neq => some (none, boolAV (a != b))
    | .lss => some (none, boolAV (decide (a < b)))
    | .leq => some (none, boolAV (decide (a ≤ b)))
    | .gtr => some (none, boolAV (decide (a > b)))
    | .geq => some (none, boolAV (decide (a ≥ b)))
    | _ => none
  else none

def abin (τ : Tys) (M : Mem) (op : BinOp) (t : TypeId) (x y : AV) : Option (Option Prop × AV) :=
  match x, y with
  | .one (.c (.pl (.int j a))), .one (.c (.pl (.int k b))) => aint op j a k b
  | .one (.c (.pl (.bool a))), .one (.c (.pl (.bool b))) => match τ t with
    | some ti => bif ti.isBool then match op with
        | .eql => some (none, boolAV (a == b))
        | .neq => some (none, boolAV (!(a == b)))
        | _ => none
      else none
    | none => none
  | .one (.agg xs), .one (.agg ys) => match τ t, plOf xs, plOf ys with
    | some ti, some ps, some qs => bif ti.eqk && kindsFit ti.zero ps qs then match op with
        | .eql => some (none, boolAV (pcsEq ps qs))
        | .neq => some (none, boolAV (!(pcsEq ps qs)))
        | _ => none
      else none
    | _, _, _ => none
  | .one (.c p), .one (.c q) => match τ t with
    | some ti => bif ti.isPtr then match p, q, op with
        | .nilp, .nilp, .eql => some (none, boolAV true)
        | .nilp, .nilp, .neq => some (none, boolAV false)
        | p, .nilp, .eql => bif isLivePtr M p then some (none, boolAV false) else none
        | p, .nilp, .neq => bif isLivePtr M p then some (none, boolAV true) else none
        | _, _, _ => none
      else none
    | none => none
  | _, _ => none

def mm (mx : Bool) (x y : Int) : Int := bif mx then (if y > x then y else x) else (if y < x then y else x)
def foldMM (mx : Bool) (k : IntKind) : Int → List AV → Option Int
  | x, [] => some x
  | x, .one (.c (.pl (.int j y))) :: r => bif kEq j k then foldMM mx k (mm mx x y) r else none
  | _, _ => none

def bigRow : Nat := 1073741824

/-- Put the parts of a struct into its cells. -/
def fillS (flds : List FI) : List Cell → List (Nat × AV) → Option (List Cell)
  | cs, [] => some cs
  | cs, (i, v) :: r => match flds[i]?, cellsOf v with
    | some fi, some vs => bif Nat.beq vs.length fi.sz && Nat.ble (fi.off + vs.length) cs.length then fillS flds (setMany cs fi.off vs) r else none
    | _, _ => none
/-- The parts of a slice literal, in order, none left out. -/
def elemsOf (t : RTy) : Nat → List (Nat × AV) → Option (List t.T)
  | _, [] => some []
  | k, (i, v) :: r => bif Nat.beq i k then match cellsOf v with
      | some cs => match plOf cs with
        | some ps => match t.mk ps, elemsOf t (k + 1) r with
          | some x, some xs => some (x :: xs)
          | _, _ => none
        | none => none
      | none => none
    else none

def intOf? : AV → Option Int
  | .one (.c (.pl (.int _ n))) => some n
  | _ => none
def optInt (F : List AV) : Option Operand → Option (Option Int)
  | none => some none
  | some x => match intOf? (oe F x) with
    | some n => some (some n)
    | none => none

/-- xs, from place lo on replaced by ys. -/
def splice {α : Type} (xs : List α) (lo : Nat) (ys : List α) : List α := xs.take lo ++ ys ++ xs.drop (lo + ys.length)

/-- The rows' type of an append. -/
def rowT (τ : Tys) (tys : List TypeId) : Option RTy := match tys with
  | [t, u] => bif Nat.beq t u then match τ t with
      | some ti => ti.elem
      | none => none
    else none
  | _ => none
/-- A place to write to: the row, what it holds, from where on, how many. -/
def dstOf (M : Mem) (t : RTy) : AV → Option (Nat × List t.T × Nat × Nat)
  | .one (.c (.row b)) => match M.at b with
    | .row u xs => (u.cast t xs).map fun ys => (b, ys, 0, ys.length)
    | _ => none
  | .one (.c (.sub b lo len)) => match M.at b with
    | .row u xs => (u.cast t xs).map fun ys => (b, ys, lo, len)
    | _ => none
  | _ => none
/-- How many elements a whole slice has. -/
def lenW (M : Mem) : AV → Option Nat
  | .one (.c .es) => some 0
  | .one (.c (.row b)) => match M.at b with
    | .row _ xs => some xs.length
    | _ => none
  | .one (.c (.ros _ xs)) => some xs.length
  | _ => none
def abuiltin (τ : Tys) (F : List AV) (M : Mem) (b : Builtin) (tys : List TypeId) (xs : List AV) : Option OR :=
  match b, xs with
  | .len, [x] => match tys with
    | t :: _ => match τ t with
      | some ti => match ti.elem with
        | some _ => match lenOf M x with
          | some n => some ⟨none, intAV .i64 n, M⟩
          | none => none
        | none => match x with
          | .one (.c (.pl (.str s))) => bif ti.isStr then some ⟨none, intAV .i64 s.size, M⟩ else none
          | _ => none
      | none => none
    | [] => none
  | .min, .one (.c (.pl (.int k x))) :: r => match foldMM false k x r with
    | some n => some ⟨none, intAV k n, M⟩
    | none => none
  | .max, .one (.c (.pl (.int k x))) :: r => match foldMM true k x r with
    | some n => some ⟨none, intAV k n, M⟩
    | none => none
  | .append, [.one (.c .es), x] => match rowT τ tys with
    | some rt => match srcOf M rt x with
      | some ys => some ⟨some (ys.length ≤ bigRow), .one (.c (.row M.length)), M ++ [.row rt ys]⟩
      | none => none
    | none => none
  | .append, [.one (.c (.row b)), x] => match rowT τ tys with
    | some rt => match srcOf M rt (.one (.c (.row b))), srcOf M rt x with
      | some zs, some ys => some ⟨some (zs.length + ys.length ≤ bigRow), .one (.c (.row M.length)), M.set b .dead ++ [.row rt (zs ++ ys)]⟩
      | _, _ => none
    | none => none
  | .append, [.one (.c (.sub b 0 k)), .one (.c (.sub b' j m))] => match rowT τ tys with
    | some rt => match srcOf M rt (.one (.c (.row b))), srcOf M rt (.one (.c (.sub b' j m))) with
      | some zs, some ys => bif Nat.beq b b' then some ⟨some (k + m ≤ zs.length ∧ ys.length = m), .one (.c (.sub b 0 (k + m))), M.set b (.row rt (splice zs k ys))⟩ else none
      | _, _ => none
    | none => none
  | .copy, [d, s] => match tys with
    | t :: _ => match τ t with
      | some ti => match ti.elem with
        | some rt => match dstOf M rt d, srcOf M rt s with
          | some (b, zs, lo, len), some ys => some ⟨some (lo + len ≤ zs.length), intAV .i64 (Nat.min ys.length len), M.set b (.row rt (splice zs lo (ys.take len)))⟩
          | _, _ => none
        | none => none
      | none => none
    | [] => none
  | .clear, [d] => match tys with
    | t :: _ => match τ t with
      | some ti => match ti.elem with
        | some rt => match dstOf M rt d with
          | some (b, zs, lo, len) => some ⟨some (lo + len ≤ zs.length), .tup [], M.set b (.row rt (splice zs lo (List.replicate len rt.zero)))⟩
          | none => none
        | none => none
      | none => none
    | [] => none
  | _, _ => none

def aslice (M : Mem) (rt : RTy) (x : AV) (lo hi : Option Int) : Option (Option Prop × AV) :=
  match x with
  | .one (.c (.row b)) => match M.at b with
    | .row u xs => bif u.same rt then
        let h := hi.getD xs.length
        let l := lo.getD 0
        some (some ((0 ≤ l ∧ l ≤ h) ∧ h ≤ xs.length), .one (.c (.sub b l.toNat (h.toNat - l.toNat))))
      else none
    | _ => none
  | .one (.c (.sub b 0 len)) => match M.at b with
    | .row u xs => bif u.same rt then
        let h := hi.getD len
        let l := lo.getD 0
        some (some ((0 ≤ l ∧ l ≤ h) ∧ h ≤ xs.length), .one (.c (.sub b l.toNat (h.toNat - l.toNat))))
      else none
    | _ => none
  | _ => none

/-- Some cells of one element, put anew. -/
def putAt (t : RTy) (xs : List t.T) (i off : Nat) (ps : List PC) : List t.T := match t.puts (xs.getD i t.zero) off ps with
  | some y => xs.set i y
  | none => xs
def fldVal : Bool → List Cell → Option AV
  | true, cs => some (.one (.agg cs))
  | false, [c] => some (.one (.c c))
  | false, _ => none
def aop (τ : Tys) (o : Oper) (F : List AV) (M : Mem) : Option OR :=
  match o.op with
  | .move x | .assign x => some ⟨none, oe F x, M⟩
  | .pick c a b => match oe F c with
    | .one (.c (.pl (.bool t))) => match oe F a, oe F b with
      | .one (.c (.pl (.bool x))), .one (.c (.pl (.bool y))) => some ⟨none, boolAV (cond t x y), M⟩
      | _, _ => none
    | _ => none
  | .alloc t => match τ t with
    | some ti => match ti.zero with
      | z :: zs => some ⟨none, .one (.c (.ptr M.length 0 0)), M ++ [.cells (z :: zs)]⟩
      | [] => none
    | none => none
  | .box _ x => match cellsOf (oe F x) with
    | some cs => some ⟨none, .one (.c (.ptr M.length 0 0)), M ++ [.cells cs]⟩
    | none => none
  | .build t ps => match τ t with
    | some ti => match ti.flds, ti.zero with
      | f :: fs, z :: zs => match fillS (f :: fs) (z :: zs) (ps.toList.map fun p => (p.1, oe F p.2)) with
        | some cs => some ⟨none, .one (.agg cs), M⟩
        | none => none
      | _, _ => none
    | none => none
  | .buildSlice t len ps => match τ t with
    | some ti => match ti.elem with
      | some rt => match elemsOf rt 0 (ps.toList.map fun p => (p.1, oe F p.2)) with
        | some xs => bif Nat.beq xs.length len && Nat.ble len 100 then some ⟨none, .one (.c (.row M.length)), M ++ [.row rt xs]⟩ else none
        | none => none
      | none => none
    | none => none
  | .load t a => match τ t, oe F a with
    | some ti, .one (.c (.ptr b i off)) => match M.at b with
      | .cells vs => bif Nat.ble (off + ti.size) vs.length then orOf M (ofCells ti ((vs.drop off).take ti.size)) else none
      | .row rt xs => bif Nat.ble (off + ti.size) rt.sz then orOf M (ofCells ti ((((rt.enc (xs.getD i rt.zero)).map .pl).drop off).take ti.size)) else none
      | _ => none
    | some ti, .rop cs => bif Nat.ble ti.size cs.length then orOf M (ofCells ti (cs.take ti.size)) else none
    | _, _ => none
  | .store t a x => match τ t, oe F a, cellsOf (oe F x) with
    | some ti, .one (.c (.ptr b i off)), some cs => bif Nat.beq cs.length ti.size then match M.at b with
        | .cells vs => bif Nat.ble (off + ti.size) vs.length then some ⟨none, .undef, M.set b (.cells (setMany vs off cs))⟩ else none
        | .row rt xs => match plOf cs with
          | some ps => match rt.puts rt.zero off ps with
            | some _ => some ⟨none, .undef, M.set b (.row rt (putAt rt xs i off ps))⟩
            | none => none
          | none => none
        | _ => none
      else none
    | _, _, _ => none
  | .nilCheck x => match oe F x with
    | .one (.c (.ptr b i off)) => bif live M b then some ⟨none, oe F x, M⟩ else none
    | .rop cs => some ⟨none, oe F x, M⟩
    | _ => none
  | .binOp op t x y _ => match abin τ M op t (oe F x) (oe F y) with
    | some (p, v) => some ⟨p, v, M⟩
    | none => none
  | .unOp op _ x => match op, oe F x with
    | .not, .one (.c (.pl (.bool b))) => some ⟨none, boolAV (!b), M⟩
    | .neg, .one (.c (.pl (.int k n))) => some ⟨none, intAV k (k.wrap (0 - n)), M⟩
    | _, _ => none
  | .convert s d x => match τ s, τ d, oe F x with
    | some _, some ti, .one (.c (.pl (.int _ n))) => match ti.ik with
      | some k => some ⟨none, intAV k (k.wrap n), M⟩
      | none => none
    | _, _, _ => none
  | .makeFunc (.func f) first caps => match v1sOf (first.toList.map (oe F)), v1sOf (caps.toList.map (oe F)) with
    | some a, some b => some ⟨none, .fn f a b, M⟩
    | _, _ => none
  | .fieldAddr s x f => match τ s with
    | some ti => match ti.flds[f]?, oe F x with
      | some fi, .one (.c (.ptr b i off)) => bif live M b then some ⟨none, .one (.c (.ptr b i (off + fi.off))), M⟩ else none
      | some fi, .rop cs => some ⟨none, .rop (cs.drop fi.off), M⟩
      | _, _ => none
    | none => none
  | .field s x f => match τ s with
    | some ti => match ti.flds[f]?, oe F x with
      | some fi, .one (.agg cs) => bif Nat.ble (fi.off + fi.sz) cs.length then orOf M (fldVal fi.agg ((cs.drop fi.off).take fi.sz)) else none
      | _, _ => none
    | none => none
  | .indexAddr t x ix => match τ t, intOf? (oe F ix) with
    | some ti, some i => match ti.elem, oe F x with
      | some rt, .one (.c (.row b)) => match M.at b with
        | .row u xs => bif u.same rt then some ⟨some (0 ≤ i ∧ i < xs.length), .one (.c (.ptr b i.toNat 0)), M⟩ else none
        | .hidR u n => bif u.same rt then some ⟨some (0 ≤ i ∧ i < n), .one (.c (.ptr b i.toNat 0)), M⟩ else none
        | _ => none
      | some rt, .one (.c (.sub b lo len)) => match M.at b with
        | .row u xs => bif u.same rt then some ⟨some ((0 ≤ i ∧ i < len) ∧ lo + len ≤ xs.length), .one (.c (.ptr b (lo + i.toNat) 0)), M⟩ else none
        | _ => none
      | some rt, .one (.c (.ros u xs)) => bif u.same rt then some ⟨some (0 ≤ i ∧ i < xs.length), .rop ((u.enc (xs.getD i.toNat u.zero)).map .pl), M⟩ else none
      | _, _ => none
    | _, _ => none
  | .extract t i => match oe F t with
    | .tup xs => match xs[i]? with
      | some x => some ⟨none, .one x, M⟩
      | none => none
    | _ => none
  | .slice t x lo hi mx => match mx with
    | none => match τ t, optInt F lo, optInt F hi with
      | some ti, some l, some h => match ti.elem with
        | some rt => match aslice M rt (oe F x) l h with
          | some (p, v) => some ⟨p, v, M⟩
          | none => none
        | none => none
      | _, _, _ => none
    | some m => match τ t, lenW M (oe F x), optInt F lo, optInt F hi, intOf? (oe F m) with
      | some ti, some n, some l, some (some h), some m => match ti.elem with
        | some _ => some ⟨some ((0 ≤ l.getD 0 ∧ l.getD 0 ≤ h) ∧ (h ≤ m ∧ m ≤ n)), .junk, M⟩
        | none => none
      | _, _, _, _, _ => none
  | .makeSlice t l c => match τ t, intOf? (oe F l), intOf? (oe F c) with
    | some ti, some n, some m => match ti.elem with
      | some rt => some ⟨some ((0 ≤ n ∧ n ≤ 1048576) ∧ m = n), .one (.c (.row M.length)), M ++ [.row rt (List.replicate n.toNat rt.zero)]⟩
      | none => none
    | _, _, _ => none
  | .call c => match c.callee with
    | .builtin b => abuiltin τ F M b c.argTypes.toList (c.args.toList.map (oe F))
    | _ => none
  | _ => none

def aopT (Γ : Gam) (τ : Tys) (o : Oper) (F : List AV) (M : Mem) : Option (BT OR) :=
  match o.op with
  | .call c => match c.callee with
    | .value f => match fullArgs F (oe F f) c.args.toList with
      | some (f, xs) => acall Γ M f xs
      | none => none
    | _ => (aop τ o F M).map .leaf
  | .pick c a b => match oe F c with
    | .one (.c (.pl (.bool t))) => some (.br t (.leaf ⟨none, oe F a, M⟩) (.leaf ⟨none, oe F b, M⟩))
    | _ => none
  | _ => (aop τ o F M).map .leaf

/-! ### 4. Regions -/
def guardOf (all : List Oper) (F : List AV) (j : Nat) : Option (Option Bool) :=
  match all[j]? with
  | some o => match o.dst with
    | some d => match F[d]? with
      | some (.one (.c (.pl (.bool b)))) => some (some b)
      | some .undef => some none
      | _ => none
    | none => none
  | none => none

/-- What a guard has turned out to be. -/
def known (all : List Oper) (F : List AV) (j : Nat) (b : Bool) : List AV := match all[j]? with
  | some o => match o.dst with
    | some d => F.set d (.one (.c (.pl (.bool b))))
    | none => F
  | none => F
def sel2 (b want : Bool) (p q : Prop) : Prop := match want with
  | true => cnd b p q
  | false => cnd b q p

/-- A slice held against nil. -/
def nilCmp (τ : Tys) (o : Oper) (F : List AV) (M : Mem) : Option (Bool × Nat) := match o.op with
  | .binOp op t x (.const (.slice none 0 0)) _ => match τ t, lenW M (oe F x) with
    | some ti, some n => match ti.elem with
      | some _ => match op with
        | .eql => some (true, n)
        | .neq => some (false, n)
        | _ => none
      | none => none
    | _, _ => none
  | _ => none
def stepOp (Γ : Gam) (τ : Tys) (o : Oper) (F : List AV) (M : Mem) (k : AV → Mem → Prop) : Prop :=
  match nilCmp τ o F M with
  | some (eq, n) => ∀ c : Bool, (c = true → n = 0) → k (boolAV (c == eq)) M
  | none => match aopT Γ τ o F M with
    | some t => t.then fun x => andP x.pre (k x.val x.mem)
    | none => False
def runOps (Γ : Gam) (τ : Tys) (all : List Oper) : List Oper → List AV → Mem → (List AV → Mem → Prop) → Prop
  | [], F, M, K => K F M
  | o :: r, F, M, K =>
    match o.guard with
    | none => stepOp Γ τ o F M fun v N => runOps Γ τ all r (putF F o.dst v) N K
    | some (j, want) => match guardOf all F j with
      | some (some b) => sel2 b want
          (stepOp Γ τ o (known all F j want) M fun v N => runOps Γ τ all r (putF (known all F j want) o.dst v) N K)
          (runOps Γ τ all r (putF (known all F j (!want)) o.dst .undef) M K)
      | some none => runOps Γ τ all r (putF F o.dst .undef) M K
      | none => False

/-- What of the memory an operation reads, and what it writes. -/
def foot (o : Oper) (F : List AV) (M : Mem) : List Nat × List Nat :=
  match o.op with
  | .load _ a => ((oe F a).ids, [])
  | .store _ a _ => ([], (oe F a).ids)
  | .nilCheck x => ((oe F x).ids, [])
  | .binOp _ _ x y _ => ((oe F x).ids ++ (oe F y).ids, [])
  | .indexAddr _ x _ => ((oe F x).ids, [])
  | .slice _ x _ _ _ => ((oe F x).ids, [])
  | .call c => match c.callee with
    | .builtin .append => match c.args.toList.map (oe F) with
      | [s, x] => (x.ids, s.ids)
      | _ => ([], [])
    | .builtin .copy => match c.args.toList.map (oe F) with
      | [d, s] => (s.ids, d.ids)
      | _ => ([], [])
    | .builtin .clear => ([], avidsL (c.args.toList.map (oe F)))
    | .builtin _ => (avidsL (c.args.toList.map (oe F)), [])
    | .value f => match fullArgs F (oe F f) c.args.toList with
      | some (_, xs) => (reach M 300 (avidsL xs) [], [])
      | none => ([], [])
    | .invoke _ _ => ([], [])
  | _ => ([], [])

def usedT : List Operand → List Tmp
  | [] => []
  | .tmp t :: r => t :: usedT r
  | _ :: r => usedT r

structure Tr where
  dst : Option Tmp
  rdS : List Tmp
  rdM : List Nat
  wrM : List Nat
  mn : List Nat
  kl : List Nat

def restrictF (keep : List Tmp) : Nat → List AV → List AV
  | _, [] => []
  | i, v :: r => (bif memN i keep then v else .junk) :: restrictF keep (i + 1) r
/-- What an operation may look into, what it may only name, and the rest, of which it knows nothing. -/
def viewM (vis mn : List Nat) : Nat → Mem → Mem
  | _, [] => []
  | i, v :: r => (bif memN i vis then v else bif memN i mn then v.hide else .dead) :: viewM vis mn (i + 1) r
/-- The kept blocks and the new ones out of N, the others out of M. -/
def mergeM (keep : List Nat) : Nat → Mem → Mem → Mem
  | _, [], N => N
  | i, v :: r, x :: s => (bif memN i keep then x else v) :: mergeM keep (i + 1) r s
  | i, v :: r, [] => v :: r
/-- Does a call write what it was handed? -/
def writes (Γ : Gam) (o : Oper) (F : List AV) (M : Mem) : Bool := match o.op with
  | .call c => match c.callee with
    | .value f => match fullArgs F (oe F f) c.args.toList with
      | some (f, xs) => match Γ f with
        | some S => match S (xs.map (AV.map (inv (reach M 300 (avidsL xs) [])))) ((reach M 300 (avidsL xs) []).map fun b => (M.at b).map (inv (reach M 300 (avidsL xs) []))) with
          | some t => t.any fun r => r.upd.isSome
          | none => true
        | none => true
      | none => true
    | _ => false
  | _ => false

def range' : Nat → Nat → List Nat
  | _, 0 => []
  | i, n + 1 => i :: range' (i + 1) n

def gslot (all : List Oper) (o : Oper) : List Tmp := match o.guard with
  | none => []
  | some (j, _) => match all[j]? with
    | some p => match p.dst with
      | some d => [d]
      | none => []
    | none => []

/-- The two lists' members, none twice. -/
def unionN : List Nat → List Nat → List Nat
  | [], ys => ys
  | x :: xs, ys => bif memN x ys then unionN xs ys else unionN xs (x :: ys)
def anc1 (acc : List (List Nat)) : List Nat → List Nat → List Nat
  | [], ys => ys
  | e :: r, ys => bif memN e ys then anc1 acc r ys else anc1 acc r (e :: unionN (acc.getD e []) ys)
/-- All that must have gone ahead of operation j. -/
def ancs : List (List Nat) → List Oper → List (List Nat)
  | acc, [] => acc
  | acc, o :: r => ancs (acc ++ [anc1 acc ((o.after.toList.filter (Region.binds .any)).map fun e => e.on) []]) r

def meets (xs : List Nat) : List Nat → Bool
  | [] => false
  | b :: r => memN b xs || meets xs r
def optL : Option Nat → List Nat
  | some d => [d]
  | none => []
def clash (x y : Tr) : Bool :=
  meets (optL x.dst) (y.rdS ++ optL y.dst) || (meets (optL y.dst) x.rdS || (meets x.wrM (y.rdM ++ y.wrM) || (meets y.wrM x.rdM || (meets x.kl y.mn || meets y.kl x.mn))))
/-- Of two operations that are not in order, none writes what the other reads or writes. -/
def okRow (x : Tr) (i : Nat) (an : List (List Nat)) : Nat → List Tr → Bool
  | _, [] => true
  | j, y :: r => (memN i (an.getD j []) || !(clash x y)) && okRow x i an (j + 1) r
def okAll (an : List (List Nat)) : Nat → List Tr → Bool
  | _, [] => true
  | i, x :: r => okRow x i an (i + 1) r && okAll an (i + 1) r
def backward : Nat → List Oper → Bool
  | _, [] => true
  | j, o :: r => ((o.after.toList.filter (Region.binds .any)).all fun e => Nat.blt e.on j) && backward (j + 1) r

structure DR where
  pre : Option Prop
  val : AV
  mem : Mem
  tr : Tr
  ok : Bool
def keptB : Blk → Blk → Bool
  | .cells vs, .cells us => Nat.beq vs.length us.length
  | _, _ => false
def filterN (p : Nat → Bool) : List Nat → List Nat
  | [] => []
  | b :: r => bif p b then b :: filterN p r else filterN p r
def allN (p : Nat → Bool) : List Nat → Bool
  | [] => true
  | b :: r => p b && allN p r
def flatN (f : Nat → List Nat) : List Nat → List Nat
  | [] => []
  | b :: r => f b ++ flatN f r
def drRes (o : Oper) (rdS : List Tmp) (M L : Mem) (vis mn wr : List Nat) (x : OR) : DR :=
  let new := range' M.length (x.mem.length - M.length)
  ⟨x.pre, x.val, mergeM wr 0 M x.mem, ⟨o.dst, rdS, vis, wr ++ new, mn, filterN (fun b => !(keptB (M.at b) (x.mem.at b))) wr ++ new⟩,
    Nat.ble M.length x.mem.length && (allN (fun b => Nat.blt b M.length) mn && (allIn mn wr && (allN (fun c => memN c wr || live x.mem c == live L c) mn &&
      (allN (fun c => Nat.ble M.length c || memN c mn) (x.val.ids) && (allN (fun c => Nat.ble M.length c || memN c mn) (flatN (fun b => (x.mem.at b).ids) (wr ++ new)))))))⟩
def drIn (o : Oper) (F : List AV) (M : Mem) : List Nat × List Nat :=
  match foot o F M with
  | (rd, wr) => (rd ++ wr, avidsL ((usedT o.op.operands.toList).map fun s => F.getD s .undef) ++ ((rd ++ wr) ++ flatN (fun b => (M.at b).ids) (rd ++ wr)))
/-- An operation by what it looks at alone: its answers, what it reads, what it writes. -/
def aopR (Γ : Gam) (τ : Tys) (all : List Oper) (o : Oper) (F : List AV) (M : Mem) : Option (BT DR) :=
  match drIn o F M with
  | (vis, mn) =>
    let F' := restrictF (usedT o.op.operands.toList) 0 F
    let L := viewM vis mn 0 M
    match aopT Γ τ o F' L with
      | some t => some (t.map (drRes o (gslot all o ++ usedT o.op.operands.toList) M L vis mn (bif writes Γ o F' L then vis else (foot o F' L).2)))
      | none => none

def drGo (Γ : Gam) (τ : Tys) (all : List Oper) (o : Oper) (F : List AV) (M : Mem) (k : List AV → Mem → Tr → Prop) : Prop :=
  match aopR Γ τ all o F M with
  | some t => t.then fun x => ifT x.ok (andP x.pre (k (putF F o.dst x.val) x.mem x.tr))
  | none => False
def drSkip (all : List Oper) (o : Oper) (F : List AV) (M : Mem) (k : List AV → Mem → Tr → Prop) : Prop :=
  k (putF F o.dst .undef) M ⟨o.dst, gslot all o, [], [], [], []⟩
def drStep (Γ : Gam) (τ : Tys) (all : List Oper) (o : Oper) (F : List AV) (M : Mem) (k : List AV → Mem → Tr → Prop) : Prop :=
  match o.guard with
  | none => drGo Γ τ all o F M k
  | some (j, want) => match guardOf all F j with
    | some (some b) => sel2 b want (drGo Γ τ all o (known all F j want) M k) (drSkip all o (known all F j (!want)) M k)
    | some none => drSkip all o F M k
    | none => False

def runDraw (Γ : Gam) (τ : Tys) (all : List Oper) (an : List (List Nat)) : List Oper → List AV → Mem → List Tr → (List AV → Mem → Prop) → Prop
  | [], F, M, tr, K => ifT (okAll an 0 tr) (K F M)
  | o :: r, F, M, tr, K => drStep Γ τ all o F M fun F' M' t => runDraw Γ τ all an r F' M' (tr ++ [t]) K

/-! ### 4b. Tests of several parts: what is done only if an earlier part has turned out so -/
def pureOp : Op → Bool
  | .move _ | .assign _ | .pick _ _ _ | .load _ _ | .nilCheck _ | .binOp _ _ _ _ _ | .unOp _ _ _ | .convert _ _ _ | .fieldAddr _ _ _ | .field _ _ _ | .indexAddr _ _ _ | .extract _ _ => true
  | _ => false
def isNilB : Mem → Bool
  | [] => true
  | _ => false
def pureT (Γ : Gam) (τ : Tys) (o : Oper) (F : List AV) (M : Mem) : Option (Option Prop × AV) :=
  match o.op with
  | .call c => match c.callee with
    | .value f => match fullArgs F (oe F f) c.args.toList with
      | some (f, xs) => match Γ f with
        | some S => bif allIn (reach M 300 (avidsL xs) []) (avidsL xs) && (closedIn M (reach M 300 (avidsL xs) []) (reach M 300 (avidsL xs) []) && nodupN (reach M 300 (avidsL xs) [])) then
            match S (xs.map (AV.map (inv (reach M 300 (avidsL xs) [])))) ((reach M 300 (avidsL xs) []).map fun b => (M.at b).map (inv (reach M 300 (avidsL xs) []))) with
            | some (.leaf r) => match r.upd with
              | none => bif isNilB r.new then some (r.pre, r.val.map (back (reach M 300 (avidsL xs) []) M.length)) else none
              | some _ => none
            | _ => none
          else none
        | none => none
      | none => none
    | .builtin .len => match aop τ o F M with
      | some r => some (r.pre, r.val)
      | none => none
    | _ => none
  | op => bif pureOp op then match aop τ o F M with
      | some r => some (r.pre, r.val)
      | none => none
    else none
def andO : Option Prop → Option Prop → Option Prop
  | none, q => q
  | p, none => p
  | some p, some q => some (p ∧ q)
def guardIs (all : List Oper) (F : List AV) (j : Nat) (w : Bool) : Bool := match guardOf all F j with
  | some (some g) => g == w
  | _ => false
def sameG (j : Nat) (w : Bool) (o : Oper) : Bool := match o.guard with
  | some (j', w') => Nat.beq j j' && (w == w')
  | none => false
def runPure (Γ : Gam) (τ : Tys) (all : List Oper) (j : Nat) (w : Bool) : List Oper → List AV → Mem → Option (Option Prop × List AV)
  | [], F, _ => some (none, F)
  | o :: r, F, M => bif sameG j w o && guardIs all F j w then match pureT Γ τ o F M with
      | some (p, v) => match runPure Γ τ all j w r (putF F o.dst v) M with
        | some (q, F') => some (andO p q, F')
        | none => none
      | none => none
    else none
def runUndef (all : List Oper) (j : Nat) (w : Bool) : List Oper → List AV → Option (List AV)
  | [], F => some F
  | o :: r, F => bif sameG j w o && guardIs all F j (!w) then runUndef all j w r (putF F o.dst .undef) else none
def junkAll : List Oper → List AV → List AV
  | [], F => F
  | o :: r, F => junkAll r (putF F o.dst .junk)
def guardTmp (all : List Oper) (j : Nat) : Option Tmp := match all[j]? with
  | some o => o.dst
  | none => none
def isTmp (g : Option Tmp) : Operand → Bool
  | .tmp t => match g with
    | some u => Nat.beq t u
    | none => false
  | _ => false
/-- Both answers of a test whose second part is run only if its first part has come to w. -/
def grpRes (Γ : Gam) (τ : Tys) (all : List Oper) (j : Nat) (w : Bool) (pre : List Oper) (p : Oper) (F : List AV) (M : Mem) : Option (Option Prop × Bool × Bool × Tmp) :=
  match p.op, p.dst, p.guard with
  | .pick c x y, some d, none => bif isTmp (guardTmp all j) c then match runPure Γ τ all j w pre (known all F j w) M, runUndef all j w pre (known all F j (!w)) with
      | some (q, F1), some F0 => bif guardIs all F1 j w && guardIs all F0 j (!w) then match oe F1 (cond w x y), oe F0 (cond w y x) with
          | .one (.c (.pl (.bool a))), .one (.c (.pl (.bool b))) => some (q, a, b, d)
          | _, _ => none
        else none
      | _, _ => none
    else none
  | _, _, _ => none
inductive Item where
  | one (o : Oper)
  | grp (j : Nat) (w : Bool) (pre : List Oper) (p : Oper)
def grpTake (j : Nat) (w : Bool) : List Oper → List Oper × List Oper
  | [] => ([], [])
  | o :: r => bif sameG j w o then match grpTake j w r with
      | (a, b) => (o :: a, b)
    else ([], o :: r)
def itemsF : Nat → List Oper → List Item
  | 0, l => l.map .one
  | _ + 1, [] => []
  | n + 1, o :: r => match o.guard with
    | none => .one o :: itemsF n r
    | some (j, w) => match grpTake j w (o :: r) with
      | (a, p :: b) => .grp j w a p :: itemsF n b
      | (a, []) => a.map .one
def runItems (Γ : Gam) (τ : Tys) (all : List Oper) : List Item → List AV → Mem → (List AV → Mem → Prop) → Prop
  | [], F, M, K => K F M
  | .one o :: r, F, M, K => runOps Γ τ all [o] F M fun F' M' => runItems Γ τ all r F' M' K
  | .grp j w pre p :: r, F, M, K => match guardOf all F j with
    | some (some b) => match grpRes Γ τ all j w pre p F M with
      | some (q, x, y, d) => andP (q.map fun q => b = w → q) (runItems Γ τ all r (putF (junkAll pre F) (some d) (boolAV (cond w (cond b x y) (cond b y x)))) M K)
      | none => runOps Γ τ all (pre ++ [p]) F M fun F' M' => runItems Γ τ all r F' M' K
    | _ => runOps Γ τ all (pre ++ [p]) F M fun F' M' => runItems Γ τ all r F' M' K

/-! ### 5. Code -/
inductive Ex where
  | normal | exit (id : Nat) | ret

/-- The same, told with less: blocks under other names, some forgotten, empty slices as empty rows. -/
structure Le (k0 : Nat) (F : List AV) (M : Mem) (F' : List AV) (M' : Mem) (σ : Nat → Nat) : Prop where
  old : ∀ b, b < k0 → live M' b = true → σ b = b
  len : k0 ≤ M'.length
  flen : F'.length = F.length
  slot : ∀ s, F'.getD s .junk = .junk ∨ ((F'.getD s .junk).map σ = F.getD s .junk)
  blk : ∀ b, live M' b = true → σ b < M.length ∧ (M'.at b).map σ = M.at (σ b)
  inj : ∀ b b', live M' b = true → live M' b' = true → σ b = σ b' → b = b'
  out : ∀ b, M'.length ≤ b → M.length ≤ σ b

inductive XP where
  | slot (s : Nat) (t : RTy)
  | tup (s i : Nat) (t : RTy)
  | blk (b j : Nat) (t : RTy)
  | cutS (s : Nat)          -- the first part of a row, as a row of its own; the old one is gone
  | cutT (s i : Nat)
  | cutB (b j : Nat)
def isEs : Cell → Bool
  | .es => true
  | _ => false
def xpand1 : XP → List AV × Mem → Option (List AV × Mem)
  | .slot s t, (F, M) => match F.getD s .junk with
    | .one (.c .es) => some (F.set s (.one (.c (.row M.length))), M ++ [.row t []])
    | _ => none
  | .tup s i t, (F, M) => match F.getD s .junk with
    | .tup xs => match xs[i]? with
      | some (.c .es) => some (F.set s (.tup (xs.set i (.c (.row M.length)))), M ++ [.row t []])
      | _ => none
    | _ => none
  | .blk b j t, (F, M) => match M.at b with
    | .cells vs => match vs[j]? with
      | some .es => some (F, M.set b (.cells (vs.set j (.row M.length))) ++ [.row t []])
      | _ => none
    | _ => none
  | .cutS s, (F, M) => match F.getD s .junk with
    | .one (.c (.sub b 0 n)) => match M.at b with
      | .row t xs => some (F.set s (.one (.c (.row M.length))), M.set b .dead ++ [.row t (xs.take n)])
      | _ => none
    | _ => none
  | .cutT s i, (F, M) => match F.getD s .junk with
    | .tup vs => match vs[i]? with
      | some (.c (.sub b 0 n)) => match M.at b with
        | .row t xs => some (F.set s (.tup (vs.set i (.c (.row M.length)))), M.set b .dead ++ [.row t (xs.take n)])
        | _ => none
      | _ => none
    | _ => none
  | .cutB b j, (F, M) => match M.at b with
    | .cells vs => match vs[j]? with
      | some (.sub r 0 n) => match M.at r with
        | .row t xs => some (F, (M.set r .dead ++ [Blk.row t (xs.take n)]).set b (.cells (vs.set j (.row M.length))))
        | _ => none
      | _ => none
    | _ => none
def xpand : List XP → List AV × Mem → Option (List AV × Mem)
  | [], x => some x
  | p :: r, x => match xpand1 p x with
    | some y => xpand r y
    | none => none

def Wk (k0 : Nat) (F : List AV) (M : Mem) (I : List AV → Mem → Prop) : Prop :=
  ∃ (ps : List XP) (y : List AV × Mem), xpand ps (F, M) = some y ∧ ∃ σ F' M', Le k0 y.1 y.2 F' M' σ ∧ I F' M'

def LoopVC (k0 : Nat) (body : List AV → Mem → (Ex → List AV → Mem → Prop) → Prop) (F : List AV) (M : Mem) (K : Ex → List AV → Mem → Prop) : Prop :=
  ∃ I : Nat → List AV → Mem → Prop, (∃ n, Wk k0 F M (I n)) ∧
    ∀ n F M, I n F M → body F M (fun e F' M' => match e with
      | .normal => ∃ n', n' < n ∧ Wk k0 F' M' (I n')
      | e => K e F' M')

/-- A place where only what is needed behind it is kept: so that what follows is run once for all ways that lead here. -/
def CutVC (k0 : Nat) (body : (Ex → List AV → Mem → Prop) → Prop) (K : Ex → List AV → Mem → Prop) : Prop :=
  ∃ I : List AV → Mem → Prop, body (fun e F M => match e with
    | .normal => Wk k0 F M I
    | e => K e F M) ∧ ∀ F M, I F M → K .normal F M

/-- The code without the marks. -/
def Code.bare : Code → Code
  | .scope a => Code.bare a
  | .seq a b => .seq (Code.bare a) (Code.bare b)
  | .cond c a b => .cond c (Code.bare a) (Code.bare b)
  | .block id a => .block id (Code.bare a)
  | .loop a => .loop (Code.bare a)
  | c => c
def Code.noScope : Code → Bool
  | .seq a b => Code.noScope a && Code.noScope b
  | .cond _ a b => Code.noScope a && Code.noScope b
  | .block _ a => Code.noScope a
  | .loop a => Code.noScope a
  | .skip => true
  | .region _ _ _ => true
  | .exit _ => true
  | .ret => true
  | _ => false
def Code.markAt : List Nat → Code → Code
  | [], c => .scope c
  | n :: r, .seq a b => match n with
    | 0 => .seq (Code.markAt r a) b
    | _ => .seq a (Code.markAt r b)
  | n :: r, .cond c a b => match n with
    | 0 => .cond c (Code.markAt r a) b
    | _ => .cond c a (Code.markAt r b)
  | _ :: r, .block id a => .block id (Code.markAt r a)
  | _ :: r, .loop a => .loop (Code.markAt r a)
  | _ :: r, .scope a => .scope (Code.markAt r a)
  | _, c => c
def Code.marks : List (List Nat) → Code → Code
  | [], c => c
  | p :: r, c => Code.marks r (Code.markAt p c)
def markF (ps : List (List Nat)) (f : Func) : Func := { f with body := f.body.map (Code.marks ps) }
theorem markF_nil (f : Func) : markF [] f = f := by
  cases f with
  | mk => simp [markF, Code.marks]
def noScopeB (f : Func) : Bool := match f.body with
  | some c => Code.noScope c
  | none => false
theorem Code.bare_of : ∀ {c : Code}, Code.noScope c = true → Code.bare c = c := by
  intro c
  induction c with
  | seq a b iha ihb => intro h; simp only [Code.noScope, Bool.and_eq_true] at h; simp only [Code.bare]; rw [iha h.1, ihb h.2]
  | cond c a b iha ihb => intro h; simp only [Code.noScope, Bool.and_eq_true] at h; simp only [Code.bare]; rw [iha h.1, ihb h.2]
  | block id a iha => intro h; simp only [Code.noScope] at h; simp only [Code.bare]; rw [iha h]
  | loop a iha => intro h; simp only [Code.noScope] at h; simp only [Code.bare]; rw [iha h]
  | scope a iha => intro h; simp [Code.noScope] at h
  | _ => intro h; first | rfl | (simp [Code.noScope] at h)
theorem Code.bare_mark : ∀ {p : List Nat} {c : Code}, Code.bare (Code.markAt p c) = Code.bare c := by
  intro p
  induction p with
  | nil => intro c; cases c <;> rfl
  | cons n r ih =>
    intro c
    cases c with
    | seq a b => cases n <;> simp only [Code.markAt, Code.bare, ih]
    | cond c a b => cases n <;> simp only [Code.markAt, Code.bare, ih]
    | block id a => simp only [Code.markAt, Code.bare, ih]
    | loop a => simp only [Code.markAt, Code.bare, ih]
    | scope a => simp only [Code.markAt, Code.bare, ih]
    | _ => rfl
theorem Code.bare_marks : ∀ {ps : List (List Nat)} {c : Code}, Code.bare (Code.marks ps c) = Code.bare c
  | [], c => rfl
  | p :: r, c => (Code.bare_marks (ps := r)).trans Code.bare_mark

def vc (Γ : Gam) (τ : Tys) (k0 : Nat) : Code → List AV → Mem → (Ex → List AV → Mem → Prop) → Prop
  | .skip, F, M, K => K .normal F M
  | .region _ ops false, F, M, K => runItems Γ τ ops.toList (itemsF ops.size ops.toList) F M (K .normal)
  | .region _ ops true, F, M, K => ifT (backward 0 ops.toList) (runDraw Γ τ ops.toList (ancs [] ops.toList) ops.toList F M [] (K .normal))
  | .seq a b, F, M, K => vc Γ τ k0 a F M fun e F' M' => match e with
    | .normal => vc Γ τ k0 b F' M' K
    | e => K e F' M'
  | .cond c t e, F, M, K => match oe F c with
    | .one (.c (.pl (.bool b))) => cnd b (vc Γ τ k0 t F M K) (vc Γ τ k0 e F M K)
    | _ => False
  | .block id body, F, M, K => vc Γ τ k0 body F M fun e F' M' => match e with
    | .exit j => bif Nat.beq j id then K .normal F' M' else K (.exit j) F' M'
    | e => K e F' M'
  | .loop body, F, M, K => LoopVC k0 (vc Γ τ k0 body) F M K
  | .scope body, F, M, K => CutVC k0 (vc Γ τ k0 body F M) K
  | .exit id, F, M, K => K (.exit id) F M
  | .ret, F, M, K => K .ret F M
  | _, _, _, _ => False

def resOf (τ : Tys) (F : List AV) (M : Mem) : ResultVar → Option V1
  | .tmp t => v1Of (F.getD t .junk)
  | .cell a t => match τ t, F.getD a .junk with
    | some ti, .one (.c (.ptr b i off)) => match M.at b with
      | .cells vs => bif Nat.ble (off + ti.size) vs.length then (match ofCells ti ((vs.drop off).take ti.size) with
        | some v => v1Of v
        | none => none) else none
      | _ => none
    | _, _ => none
def ressOf (τ : Tys) (F : List AV) (M : Mem) : List ResultVar → Option (List V1)
  | [] => some []
  | r :: rs => match resOf τ F M r, ressOf τ F M rs with
    | some x, some xs => some (x :: xs)
    | _, _ => none
def tupOf : List V1 → AV
  | [x] => .one x
  | xs => .tup xs

def undefs : Nat → List AV
  | 0 => []
  | n + 1 => .undef :: undefs n

/-- What is to be shown of a function: run from these arguments it comes to the post. -/
def vcFunc (Γ : Gam) (τ : Tys) (f : Func) (xs : List AV) (M : Mem) (post : AV → Mem → Prop) : Prop :=
  match f.body with
  | some c => vc Γ τ M.length c (xs ++ undefs (f.ntmps - xs.length)) M fun e F' M' => match e with
    | .exit _ => False
    | _ => match ressOf τ F' M' f.results.toList with
      | some vs => post (tupOf vs) M'
      | none => False
  | none => False

/-- What a function answers, as its summary says it. -/
def Ends (k0 : Nat) (r : SR) (args : Mem) (v : AV) (M : Mem) : Prop :=
  Wk k0 [v] M fun F' M' => F' = [r.val] ∧ M' = (r.upd.getD args) ++ r.new
def MeetsAt (Γ : Gam) (τ : Tys) (f : Func) (S : Summ) : Prop :=
  ∀ xs M t, S xs M = some t → (∀ l, t.ev.upd = some l → l.length = M.length) ∧ (preOk t.ev.pre → vcFunc Γ τ f xs M (Ends M.length t.ev M))
end Lw
/- What abstract values, frames and memories stand for in the machine's worlds; what a step may change. -/
set_option linter.unusedVariables false
set_option linter.unusedSimpArgs false
namespace Lw
open Go

/-! ### 1. Values -/
inductive En where
  | out | dead
  | ent (v : Value) (s : Shape)
abbrev Env := Nat → En

structure Cx where
  P : Program
  W0 : World
  eid : RTy → TypeId

def slen : Value → Nat
  | .slice _ n _ => n
  | _ => 0

def RelC (X : Cx) (E : Env) : Cell → Value → Prop
  | .pl c, v => v = c.val
  | .nilp, v => v = .pointer none
  | .ptr b i off, v => match E b with
    | .out => False
    | .dead => v.oneCell' = true
    | .ent u (.cells n) => ∃ g, u = .pointer (some ⟨g, 0, none⟩) ∧ v = .pointer (some ⟨g, off, none⟩) ∧ i = 0
    | .ent u (.row t n) => ∃ g m c, u = .slice (some ⟨g, 0, none⟩) m c ∧ v = .pointer (some ⟨g, i * t.sz + off, none⟩) ∧ i < n
  | .es, v => ∃ a, v = .slice a 0 0
  | .row b, v => match E b with
    | .out => False
    | .dead => v.oneCell' = true
    | .ent u (.row t n) => v = u ∧ ∃ a m c, u = .slice a m c
    | .ent _ _ => False
  | .sub b lo len, v => match E b with
    | .out => False
    | .dead => v.oneCell' = true
    | .ent u (.row t n) => ∃ a cap a', u = .slice a n cap ∧ v = .slice a' len (cap - lo) ∧ lo + len ≤ n ∧ (lo = 0 → a' = a) ∧ (0 < len → a' = a.map fun x => ⟨x.block, lo * t.sz, none⟩)
    | .ent _ _ => False
  | .ros t xs, v => ∃ a c, v = .slice a xs.length c ∧ xs.length ≤ c ∧ ∀ i x, xs[i]? = some x → ∃ g o, a = some ⟨g, o, none⟩ ∧ ∀ j p, (t.enc x)[j]? = some p → X.W0.cell? ⟨g, o + (i * t.sz + j), none⟩ = some p.val
  | .junk, v => v.oneCell' = true

theorem PC.val_one (c : PC) : c.val.oneCell' = true := by cases c <;> rfl

theorem RelC.one {X : Cx} {E : Env} {c : Cell} {v : Value} (h : RelC X E c v) : v.oneCell' = true := by
  cases c <;> simp only [RelC] at h
  case pl c => subst h; exact c.val_one
  case nilp => subst h; rfl
  case es => obtain ⟨a, rfl⟩ := h; rfl
  case ros => obtain ⟨a, c, rfl, _⟩ := h; rfl
  case junk => exact h
  case ptr b i off =>
    split at h
    · exact h.elim
    · exact h
    · obtain ⟨g, _, rfl, _⟩ := h; rfl
    · obtain ⟨g, m, c, _, rfl, _⟩ := h; rfl
  case row b =>
    split at h
    · exact h.elim
    · exact h
    · obtain ⟨rfl, a, m, c, rfl⟩ := h; rfl
    · exact h.elim
  case sub b lo len =>
    split at h
    · exact h.elim
    · exact h
    · obtain ⟨a, cap, a', _, rfl, _⟩ := h; rfl
    · exact h.elim

def RelCs (X : Cx) (E : Env) : List Cell → List Value → Prop
  | [], [] => True
  | c :: r, v :: s => RelC X E c v ∧ RelCs X E r s
  | _, _ => False

def RelV1 (X : Cx) (E : Env) : V1 → Value → Prop
  | .c x, v => RelC X E x v
  | .agg xs, v => ∃ cs : Array Value, v = .agg cs ∧ RelCs X E xs cs.toList

def RelV1s (X : Cx) (E : Env) : List V1 → List Value → Prop
  | [], [] => True
  | c :: r, v :: s => RelV1 X E c v ∧ RelV1s X E r s
  | _, _ => False

def RelA (X : Cx) (E : Env) : AV → Value → Prop
  | .one x, v => RelV1 X E x v
  | .tup xs, v => ∃ vs : Array Value, v = .tuple vs ∧ RelV1s X E xs vs.toList
  | .fn f a b, v => ∃ a' b' : Array Value, v = .func (.func f) a' b' ∧ RelV1s X E a a'.toList ∧ RelV1s X E b b'.toList
  | .rop cs, v => ∃ g o, v = .pointer (some ⟨g, o, none⟩) ∧ ∀ j c, cs[j]? = some c → ∃ p, c = .pl p ∧ X.W0.cell? ⟨g, o + j, none⟩ = some p.val
  | .undef, v => v = undef
  | .junk, _ => True

def RelF (X : Cx) (E : Env) : List AV → List Value → Prop
  | [], [] => True
  | c :: r, v :: s => RelA X E c v ∧ RelF X E r s
  | _, _ => False

/-- E' tells of the same blocks, or says that they are gone. -/
def Env.to (E E' : Env) : Prop := ∀ b, E b = .out ∨ E' b = .dead ∨ E' b = E b

theorem Env.to_refl (E : Env) : E.to E := fun b => .inr (.inr rfl)
theorem Env.to_trans {E E' E'' : Env} (h : E.to E') (k : E'.to E'') : E.to E'' := by
  intro b
  rcases h b with h1 | h1 | h1
  · exact .inl h1
  · rcases k b with k1 | k1 | k1
    · rw [h1] at k1; cases k1
    · exact .inr (.inl k1)
    · exact .inr (.inl (k1.trans h1))
  · rcases k b with k1 | k1 | k1
    · exact .inl (h1 ▸ k1)
    · exact .inr (.inl k1)
    · exact .inr (.inr (k1.trans h1))

theorem RelC.to {X : Cx} {E E' : Env} (hE : E.to E') {c : Cell} {v : Value} (h : RelC X E c v) : RelC X E' c v := by
  have h1 := h.one
  cases c <;> simp only [RelC] at h ⊢ <;> try exact h
  case ptr b i off =>
    rcases hE b with k | k | k
    · rw [k] at h; exact h.elim
    · rw [k]; exact h1
    · rw [k]; exact h
  case row b =>
    rcases hE b with k | k | k
    · rw [k] at h; exact h.elim
    · rw [k]; exact h1
    · rw [k]; exact h
  case sub b lo len =>
    rcases hE b with k | k | k
    · rw [k] at h; exact h.elim
    · rw [k]; exact h1
    · rw [k]; exact h

theorem RelCs.to {X : Cx} {E E' : Env} (hE : E.to E') : ∀ {cs : List Cell} {vs : List Value}, RelCs X E cs vs → RelCs X E' cs vs
  | [], [], _ => trivial
  | _ :: _, _ :: _, h => ⟨h.1.to hE, RelCs.to hE h.2⟩
  | [], _ :: _, h => h.elim
  | _ :: _, [], h => h.elim
theorem RelV1.to {X : Cx} {E E' : Env} (hE : E.to E') {c : V1} {v : Value} (h : RelV1 X E c v) : RelV1 X E' c v := by
  cases c
  case c x => exact RelC.to hE h
  case agg xs => obtain ⟨cs, hv, hr⟩ := h; exact ⟨cs, hv, hr.to hE⟩
theorem RelV1s.to {X : Cx} {E E' : Env} (hE : E.to E') : ∀ {cs : List V1} {vs : List Value}, RelV1s X E cs vs → RelV1s X E' cs vs
  | [], [], _ => trivial
  | _ :: _, _ :: _, h => ⟨h.1.to hE, RelV1s.to hE h.2⟩
  | [], _ :: _, h => h.elim
  | _ :: _, [], h => h.elim
theorem RelA.to {X : Cx} {E E' : Env} (hE : E.to E') {c : AV} {v : Value} (h : RelA X E c v) : RelA X E' c v := by
  cases c
  case one x => exact RelV1.to hE h
  case tup xs => obtain ⟨vs, hv, hr⟩ := h; exact ⟨vs, hv, hr.to hE⟩
  case fn f a b => obtain ⟨a', b', hv, h1, h2⟩ := h; exact ⟨a', b', hv, h1.to hE, h2.to hE⟩
  case rop cs => exact h
  case undef => exact h
  case junk => trivial
theorem RelF.to {X : Cx} {E E' : Env} (hE : E.to E') : ∀ {cs : List AV} {vs : List Value}, RelF X E cs vs → RelF X E' cs vs
  | [], [], _ => trivial
  | _ :: _, _ :: _, h => ⟨h.1.to hE, RelF.to hE h.2⟩
  | [], _ :: _, h => h.elim
  | _ :: _, [], h => h.elim

/-! ### 2. Under other names -/
theorem RelC_map {X : Cx} {E : Env} {σ : Nat → Nat} (c : Cell) (v : Value) : RelC X E (c.map σ) v ↔ RelC X (fun b => E (σ b)) c v := by
  cases c <;> exact Iff.rfl
theorem RelCs_map {X : Cx} {E : Env} {σ : Nat → Nat} : ∀ (cs : List Cell) (vs : List Value), RelCs X E (cs.map (Cell.map σ)) vs ↔ RelCs X (fun b => E (σ b)) cs vs
  | [], [] => Iff.rfl
  | [], _ :: _ => Iff.rfl
  | _ :: _, [] => Iff.rfl
  | c :: r, v :: s => and_congr (RelC_map c v) (RelCs_map r s)
theorem RelV1_map {X : Cx} {E : Env} {σ : Nat → Nat} (c : V1) (v : Value) : RelV1 X E (c.map σ) v ↔ RelV1 X (fun b => E (σ b)) c v := by
  cases c
  case c x => exact RelC_map x v
  case agg xs => exact exists_congr fun cs => and_congr Iff.rfl (RelCs_map xs cs.toList)
theorem RelV1s_map {X : Cx} {E : Env} {σ : Nat → Nat} : ∀ (cs : List V1) (vs : List Value), RelV1s X E (cs.map (V1.map σ)) vs ↔ RelV1s X (fun b => E (σ b)) cs vs
  | [], [] => Iff.rfl
  | [], _ :: _ => Iff.rfl
  | _ :: _, [] => Iff.rfl
  | c :: r, v :: s => and_congr (RelV1_map c v) (RelV1s_map r s)
theorem rop_map {cs : List Cell} {σ : Nat → Nat} (X : Cx) (g o : Nat) :
    (∀ j c, (cs.map (Cell.map σ))[j]? = some c → ∃ p, c = .pl p ∧ X.W0.cell? ⟨g, o + j, none⟩ = some p.val) ↔ (∀ j c, cs[j]? = some c → ∃ p, c = .pl p ∧ X.W0.cell? ⟨g, o + j, none⟩ = some p.val) := by
  constructor
  · intro h j c hc
    obtain ⟨p, hp, hw⟩ := h j (c.map σ) (by simp [hc])
    refine ⟨p, ?_, hw⟩
    cases c <;> simp [Cell.map] at hp ⊢
    exact hp
  · intro h j c hc
    simp only [List.getElem?_map, Option.map_eq_some_iff] at hc
    obtain ⟨d, hd, rfl⟩ := hc
    obtain ⟨p, rfl, hw⟩ := h j d hd
    exact ⟨p, rfl, hw⟩
theorem RelA_map {X : Cx} {E : Env} {σ : Nat → Nat} (c : AV) (v : Value) : RelA X E (c.map σ) v ↔ RelA X (fun b => E (σ b)) c v := by
  cases c
  case one x => exact RelV1_map x v
  case tup xs => exact exists_congr fun vs => and_congr Iff.rfl (RelV1s_map xs vs.toList)
  case fn f a b => exact exists_congr fun a' => exists_congr fun b' => and_congr Iff.rfl (and_congr (RelV1s_map a a'.toList) (RelV1s_map b b'.toList))
  case rop cs => exact exists_congr fun g => exists_congr fun o => and_congr Iff.rfl (rop_map X g o)
  case undef => exact Iff.rfl
  case junk => exact Iff.rfl
theorem RelF_map {X : Cx} {E : Env} {σ : Nat → Nat} : ∀ (cs : List AV) (vs : List Value), RelF X E (cs.map (AV.map σ)) vs ↔ RelF X (fun b => E (σ b)) cs vs
  | [], [] => Iff.rfl
  | [], _ :: _ => Iff.rfl
  | _ :: _, [] => Iff.rfl
  | c :: r, v :: s => and_congr (RelA_map c v) (RelF_map r s)

/-! ### 3. Lists -/
theorem RelCs.length {X : Cx} {E : Env} : ∀ {cs : List Cell} {vs : List Value}, RelCs X E cs vs → vs.length = cs.length
  | [], [], _ => rfl
  | _ :: _, _ :: _, h => congrArg (· + 1) (RelCs.length h.2)
  | [], _ :: _, h => h.elim
  | _ :: _, [], h => h.elim
theorem RelCs.get {X : Cx} {E : Env} : ∀ {cs : List Cell} {vs : List Value}, RelCs X E cs vs → ∀ (i : Nat) (c : Cell), cs[i]? = some c → ∃ v, vs[i]? = some v ∧ RelC X E c v
  | [], [], _, i, c, hc => by simp at hc
  | c :: _, v :: _, h, 0, d, hd => by simp at hd; subst hd; exact ⟨v, rfl, h.1⟩
  | _ :: _, _ :: _, h, i + 1, d, hd => by simpa using RelCs.get h.2 i d (by simpa using hd)
  | [], _ :: _, h, _, _, _ => h.elim
  | _ :: _, [], h, _, _, _ => h.elim
theorem RelCs.drop {X : Cx} {E : Env} : ∀ {cs : List Cell} {vs : List Value} (n : Nat), RelCs X E cs vs → RelCs X E (cs.drop n) (vs.drop n)
  | _, _, 0, h => h
  | [], [], _ + 1, _ => trivial
  | _ :: _, _ :: _, n + 1, h => by simpa using RelCs.drop n h.2
  | [], _ :: _, _ + 1, h => h.elim
  | _ :: _, [], _ + 1, h => h.elim
theorem RelCs.take {X : Cx} {E : Env} : ∀ {cs : List Cell} {vs : List Value} (n : Nat), RelCs X E cs vs → RelCs X E (cs.take n) (vs.take n)
  | _, _, 0, h => by simp [RelCs]
  | [], [], _ + 1, _ => trivial
  | _ :: _, _ :: _, n + 1, h => ⟨h.1, RelCs.take n h.2⟩
  | [], _ :: _, _ + 1, h => h.elim
  | _ :: _, [], _ + 1, h => h.elim
theorem RelCs.set {X : Cx} {E : Env} {c : Cell} {v : Value} (hc : RelC X E c v) : ∀ {cs : List Cell} {vs : List Value} (i : Nat), RelCs X E cs vs → RelCs X E (cs.set i c) (vs.set i v)
  | [], [], _, _ => trivial
  | _ :: _, _ :: _, 0, h => ⟨hc, h.2⟩
  | _ :: _, _ :: _, i + 1, h => ⟨h.1, RelCs.set hc i h.2⟩
  | [], _ :: _, _, h => h.elim
  | _ :: _, [], _, h => h.elim
theorem RelCs.setMany {X : Cx} {E : Env} : ∀ {ds : List Cell} {us : List Value}, RelCs X E ds us → ∀ {cs : List Cell} {vs : List Value} (i : Nat), RelCs X E cs vs → RelCs X E (setMany cs i ds) (setMany vs i us)
  | [], [], _, _, _, _, h => h
  | _ :: _, _ :: _, hd, _, _, i, h => RelCs.setMany hd.2 (i + 1) (h.set hd.1 i)
  | [], _ :: _, h, _, _, _, _ => h.elim
  | _ :: _, [], h, _, _, _, _ => h.elim
theorem RelCs.one {X : Cx} {E : Env} : ∀ {cs : List Cell} {vs : List Value}, RelCs X E cs vs → ∀ v ∈ vs, v.oneCell' = true
  | [], [], _, v, hv => by simp at hv
  | _ :: _, u :: _, h, v, hv => by
    rcases List.mem_cons.1 hv with rfl | hv
    · exact h.1.one
    · exact RelCs.one h.2 v hv
  | [], _ :: _, h, _, _ => h.elim
  | _ :: _, [], h, _, _ => h.elim
theorem RelCs.pl {X : Cx} {E : Env} : ∀ (ps : List PC), RelCs X E (ps.map .pl) (ps.map PC.val)
  | [] => trivial
  | p :: r => ⟨rfl, RelCs.pl r⟩
theorem RelCs.append {X : Cx} {E : Env} : ∀ {cs : List Cell} {vs : List Value} {ds : List Cell} {us : List Value}, RelCs X E cs vs → RelCs X E ds us → RelCs X E (cs ++ ds) (vs ++ us)
  | [], [], _, _, _, h => h
  | _ :: _, _ :: _, _, _, h, k => ⟨h.1, RelCs.append h.2 k⟩
  | [], _ :: _, _, _, h, _ => h.elim
  | _ :: _, [], _, _, h, _ => h.elim
theorem plOf_eq : ∀ {cs : List Cell} {ps : List PC}, plOf cs = some ps → cs = ps.map .pl
  | [], ps, h => by simp [plOf] at h; subst h; rfl
  | c :: r, ps, h => by
    cases c <;> simp only [plOf] at h <;> try cases h
    case pl p =>
      split at h
      · rename_i qs hq
        cases h
        rw [plOf_eq hq]; rfl
      · cases h
theorem RelCs.vals {X : Cx} {E : Env} : ∀ {ps : List PC} {vs : List Value}, RelCs X E (ps.map .pl) vs → vs = ps.map PC.val
  | [], [], _ => rfl
  | p :: r, v :: s, h => by
    have h1 : v = p.val := h.1
    rw [List.map_cons, h1, RelCs.vals h.2]
  | [], _ :: _, h => h.elim
  | _ :: _, [], h => h.elim

theorem RelF.length {X : Cx} {E : Env} : ∀ {cs : List AV} {vs : List Value}, RelF X E cs vs → vs.length = cs.length
  | [], [], _ => rfl
  | _ :: _, _ :: _, h => congrArg (· + 1) (RelF.length h.2)
  | [], _ :: _, h => h.elim
  | _ :: _, [], h => h.elim
theorem RelF.get {X : Cx} {E : Env} : ∀ {cs : List AV} {vs : List Value}, RelF X E cs vs → ∀ (i : Nat) (c : AV), cs[i]? = some c → ∃ v, vs[i]? = some v ∧ RelA X E c v
  | [], [], _, i, c, hc => by simp at hc
  | c :: _, v :: _, h, 0, d, hd => by simp at hd; subst hd; exact ⟨v, rfl, h.1⟩
  | _ :: _, _ :: _, h, i + 1, d, hd => by simpa using RelF.get h.2 i d (by simpa using hd)
  | [], _ :: _, h, _, _, _ => h.elim
  | _ :: _, [], h, _, _, _ => h.elim
theorem RelF.set {X : Cx} {E : Env} {c : AV} {v : Value} (hc : RelA X E c v) : ∀ {cs : List AV} {vs : List Value} (i : Nat), RelF X E cs vs → RelF X E (cs.set i c) (vs.set i v)
  | [], [], _, _ => trivial
  | _ :: _, _ :: _, 0, h => ⟨hc, h.2⟩
  | _ :: _, _ :: _, i + 1, h => ⟨h.1, RelF.set hc i h.2⟩
  | [], _ :: _, _, h => h.elim
  | _ :: _, [], _, h => h.elim
theorem RelF.append {X : Cx} {E : Env} : ∀ {cs : List AV} {vs : List Value} {ds : List AV} {us : List Value}, RelF X E cs vs → RelF X E ds us → RelF X E (cs ++ ds) (vs ++ us)
  | [], [], _, _, _, h => h
  | _ :: _, _ :: _, _, _, h, k => ⟨h.1, RelF.append h.2 k⟩
  | [], _ :: _, _, _, h, _ => h.elim
  | _ :: _, [], _, _, h, _ => h.elim
theorem RelF.undefs {X : Cx} {E : Env} : ∀ n, RelF X E (undefs n) (List.replicate n undef)
  | 0 => trivial
  | n + 1 => ⟨rfl, RelF.undefs n⟩
theorem RelF.v1s {X : Cx} {E : Env} : ∀ {cs : List V1} {vs : List Value}, RelV1s X E cs vs → RelF X E (cs.map .one) vs
  | [], [], _ => trivial
  | _ :: _, _ :: _, h => ⟨h.1, RelF.v1s h.2⟩
  | [], _ :: _, h => h.elim
  | _ :: _, [], h => h.elim
theorem RelF.ofOp {X : Cx} {E : Env} {F : List AV} {ρ : Operand → Value} (h : ∀ x, RelA X E (oe F x) (ρ x)) : ∀ (xs : List Operand), RelF X E (xs.map (oe F)) (xs.map ρ)
  | [] => trivial
  | x :: r => ⟨h x, RelF.ofOp h r⟩
theorem RelV1s.get {X : Cx} {E : Env} : ∀ {cs : List V1} {vs : List Value}, RelV1s X E cs vs → ∀ (i : Nat) (c : V1), cs[i]? = some c → ∃ v, vs[i]? = some v ∧ RelV1 X E c v
  | [], [], _, i, c, hc => by simp at hc
  | c :: _, v :: _, h, 0, d, hd => by simp at hd; subst hd; exact ⟨v, rfl, h.1⟩
  | _ :: _, _ :: _, h, i + 1, d, hd => by simpa using RelV1s.get h.2 i d (by simpa using hd)
  | [], _ :: _, h, _, _, _ => h.elim
  | _ :: _, [], h, _, _, _ => h.elim
theorem v1sOf_rel {X : Cx} {E : Env} : ∀ {as : List AV} {vs : List Value} {xs : List V1}, v1sOf as = some xs → RelF X E as vs → RelV1s X E xs vs
  | [], vs, xs, h, k => by
    simp [v1sOf] at h; subst h
    cases vs
    · trivial
    · exact k.elim
  | a :: r, vs, xs, h, k => by
    cases vs with
    | nil => exact k.elim
    | cons v s =>
      cases a <;> simp only [v1sOf, v1Of] at h <;> try cases h
      case one x =>
        split at h
        · rename_i ys hx hy
          cases hx
          cases h
          exact ⟨k.1, v1sOf_rel hy k.2⟩
        · cases h

/-! ### 4. Memories -/
def envOf (ρ : Nat → Value) (M : Mem) : Env := fun b => match M[b]? with
  | none => .out
  | some x => match x.shape with
    | some s => .ent (ρ b) s
    | none => .dead

def vals (t : RTy) (xs : List t.T) : List Value := (xs.map fun x => (t.enc x).map PC.val).flatten

def RepB (X : Cx) (E : Env) (w : World) (u : Value) : Blk → Prop
  | .cells vs => ∃ g cs e, u = .pointer (some ⟨g, 0, none⟩) ∧ w.heap[g]? = some (.cells cs e (0, 0)) ∧ RelCs X E vs cs.toList
  | .row t xs => (xs = [] ∧ ∃ a, u = .slice a 0 0) ∨ ∃ g cap cur, u = .slice (some ⟨g, 0, none⟩) xs.length cap ∧ 0 < cap ∧ w.heap[g]? = some (.cells cur (X.eid t) (0, 0)) ∧ xs.length ≤ cap ∧ cap ≤ maxLen ∧
      cur.size = cap * t.sz ∧ cur.toList.take (xs.length * t.sz) = vals t xs
  | .hidC n => ∃ g, u = .pointer (some ⟨g, 0, none⟩)
  | .hidR t n => (n = 0 ∧ ∃ a, u = .slice a 0 0) ∨ ∃ g cap, u = .slice (some ⟨g, 0, none⟩) n cap ∧ 0 < cap ∧ n ≤ cap
  | .dead => True

def blkOf : Value → Option Nat
  | .pointer (some a) => some a.block
  | .slice (some a) _ (_ + 1) => some a.block
  | _ => none

def Owns (ρ : Nat → Value) (M : Mem) (b g : Nat) : Prop := match M[b]? with
  | some (.cells _) => blkOf (ρ b) = some g
  | some (.row _ _) => blkOf (ρ b) = some g
  | _ => False

structure Rep (X : Cx) (ρ : Nat → Value) (M : Mem) (w : World) : Prop where
  blk : ∀ b x, M[b]? = some x → RepB X (envOf ρ M) w (ρ b) x
  sep : ∀ b b' g, Owns ρ M b g → Owns ρ M b' g → b = b'
  base : ∀ b g, Owns ρ M b g → X.W0.heap.size ≤ g
  ro : ∀ k, k < X.W0.heap.size → w.heap[k]? = X.W0.heap[k]?
  sz : X.W0.heap.size ≤ w.heap.size

structure Ext (w : World) (ρ : Nat → Value) (M : Mem) (w' : World) (ρ' : Nat → Value) (M' : Mem) : Prop where
  len : M.length ≤ M'.length
  os : w'.os = w.os
  tape : w'.tape = w.tape
  output : w'.output = w.output
  size : w.heap.size ≤ w'.heap.size
  frame : ∀ k, k < w.heap.size → (∀ b, ¬ Owns ρ M b k) → w'.heap[k]? = w.heap[k]?
  own : ∀ b g, Owns ρ' M' b g → (∃ b', Owns ρ M b' g) ∨ w.heap.size ≤ g
  keep : (envOf ρ M).to (envOf ρ' M')

theorem Ext.refl (w : World) (ρ : Nat → Value) (M : Mem) : Ext w ρ M w ρ M :=
  ⟨Nat.le_refl _, rfl, rfl, rfl, Nat.le_refl _, fun _ _ _ => rfl, fun b g h => .inl ⟨b, h⟩, Env.to_refl _⟩

theorem Ext.trans {w w' w'' : World} {ρ ρ' ρ'' : Nat → Value} {M M' M'' : Mem} (h : Ext w ρ M w' ρ' M') (k : Ext w' ρ' M' w'' ρ'' M'') : Ext w ρ M w'' ρ'' M'' := by
  refine ⟨Nat.le_trans h.len k.len, k.os.trans h.os, k.tape.trans h.tape, k.output.trans h.output, Nat.le_trans h.size k.size, fun i hi hn => ?_, fun b g hg => ?_, Env.to_trans h.keep k.keep⟩
  · rw [k.frame i (Nat.lt_of_lt_of_le hi h.size) (fun b hb => ?_), h.frame i hi hn]
    rcases h.own b i hb with ⟨b', hb'⟩ | hlt
    · exact hn b' hb'
    · omega
  · rcases k.own b g hg with ⟨b', hb'⟩ | hlt
    · exact h.own b' g hb'
    · exact .inr (Nat.le_trans h.size hlt)

theorem Rep.lt {X : Cx} {ρ : Nat → Value} {M : Mem} {w : World} (h : Rep X ρ M w) {b g : Nat} (ho : Owns ρ M b g) : g < w.heap.size := by
  unfold Owns at ho
  split at ho
  · rename_i vs hb
    obtain ⟨g', cs, e, hu, hg, _⟩ := h.blk b _ hb
    rw [hu] at ho
    have : g' = g := by simpa [blkOf] using ho
    subst this
    exact (Array.getElem?_eq_some_iff.1 hg).1
  · rename_i t xs hb
    rcases h.blk b _ hb with ⟨_, a, hu⟩ | ⟨g', cap, cur, hu, hc, hg, _⟩
    · rw [hu] at ho
      cases a <;> simp [blkOf] at ho
    · rw [hu] at ho
      obtain ⟨c, rfl⟩ : ∃ c, cap = c + 1 := ⟨cap - 1, by omega⟩
      have : g' = g := by simpa [blkOf] using ho
      subst this
      exact (Array.getElem?_eq_some_iff.1 hg).1
  · exact ho.elim

theorem envOf_lt {ρ : Nat → Value} {M : Mem} {b : Nat} : envOf ρ M b = .out ↔ M.length ≤ b := by
  unfold envOf
  cases h : M[b]? with
  | none => simpa using h
  | some x =>
    have hlt : b < M.length := (List.getElem?_eq_some_iff.1 h).1
    cases hs : x.shape <;> simp [hs, hlt]
theorem at_of {M : Mem} {b : Nat} {x : Blk} (h : M[b]? = some x) : M.at b = x := by simp [Mem.at, List.getD, h]
theorem of_at {M : Mem} {b : Nat} {x : Blk} (h : M.at b = x) (hx : x ≠ .dead) : M[b]? = some x := by
  unfold Mem.at at h
  rw [List.getD_eq_getElem?_getD] at h
  cases hb : M[b]? with
  | none => rw [hb] at h; exact absurd h.symm hx
  | some y => rw [hb] at h; simp at h; rw [h]

/-- What a world holds at the blocks of a memory is all that counts. -/
theorem RepB.same {X : Cx} {E E' : Env} {w w' : World} {u : Value} {x : Blk} (h : RepB X E w u x) (hE : E.to E')
    (hh : ∀ g, blkOf u = some g → w'.heap[g]? = w.heap[g]?) : RepB X E' w' u x := by
  cases x
  case cells vs =>
    obtain ⟨g, cs, e, rfl, hg, hr⟩ := h
    exact ⟨g, cs, e, rfl, by rw [hh g rfl]; exact hg, hr.to hE⟩
  case row t xs =>
    rcases h with h | ⟨g, cap, cur, rfl, hc, hg, h1, h2, h3, h4⟩
    · exact .inl h
    · refine .inr ⟨g, cap, cur, rfl, hc, ?_, h1, h2, h3, h4⟩
      obtain ⟨c, rfl⟩ : ∃ c, cap = c + 1 := ⟨cap - 1, by omega⟩
      rw [hh g rfl]; exact hg
  case hidC n => exact h
  case hidR t n => exact h
  case dead => trivial
end Lw
/- Steps on memories: a new block, a changed block, a block that takes another's place. -/
set_option linter.unusedVariables false
set_option linter.unusedSimpArgs false
namespace Lw
open Go

/-! ### 1. A new block -/
def upd (ρ : Nat → Value) (n : Nat) (u : Value) : Nat → Value := fun b => if b = n then u else ρ b

theorem upd_same (ρ : Nat → Value) (n : Nat) (u : Value) : upd ρ n u n = u := by simp [upd]
theorem upd_other (ρ : Nat → Value) {n b : Nat} (u : Value) (h : b ≠ n) : upd ρ n u b = ρ b := by simp [upd, h]

theorem get_push_old {M : Mem} {x : Blk} {b : Nat} (h : b < M.length) : (M ++ [x])[b]? = M[b]? := by
  rw [List.getElem?_append_left h]
theorem get_push_new (M : Mem) (x : Blk) : (M ++ [x])[M.length]? = some x := by simp
theorem get_push_cases {M : Mem} {x y : Blk} {b : Nat} (h : (M ++ [x])[b]? = some y) : (b < M.length ∧ M[b]? = some y) ∨ (b = M.length ∧ y = x) := by
  rcases Nat.lt_trichotomy b M.length with hb | hb | hb
  · exact .inl ⟨hb, by rwa [get_push_old hb] at h⟩
  · subst hb
    rw [get_push_new] at h
    exact .inr ⟨rfl, (Option.some.inj h).symm⟩
  · rw [List.getElem?_eq_none (by simp; omega)] at h
    cases h

theorem envOf_push_old (ρ : Nat → Value) (M : Mem) (u : Value) (x : Blk) {b : Nat} (h : b < M.length) : envOf (upd ρ M.length u) (M ++ [x]) b = envOf ρ M b := by
  unfold envOf
  rw [get_push_old h, upd_other ρ u (Nat.ne_of_lt h)]
theorem envOf_push_new (ρ : Nat → Value) (M : Mem) (u : Value) (x : Blk) {s : Shape} (hs : x.shape = some s) : envOf (upd ρ M.length u) (M ++ [x]) M.length = .ent u s := by
  unfold envOf
  rw [get_push_new, upd_same]
  simp [hs]
theorem env_to_push (ρ : Nat → Value) (M : Mem) (u : Value) (x : Blk) : (envOf ρ M).to (envOf (upd ρ M.length u) (M ++ [x])) := by
  intro b
  rcases Nat.lt_or_ge b M.length with h | h
  · exact .inr (.inr (envOf_push_old ρ M u x h))
  · exact .inl (envOf_lt.2 h)

theorem owns_push {ρ : Nat → Value} {M : Mem} {u : Value} {x : Blk} {b g : Nat} (h : Owns (upd ρ M.length u) (M ++ [x]) b g) : (b < M.length ∧ Owns ρ M b g) ∨ (b = M.length ∧ blkOf u = some g) := by
  unfold Owns at h
  rcases Nat.lt_trichotomy b M.length with hb | hb | hb
  · rw [get_push_old hb, upd_other ρ u (Nat.ne_of_lt hb)] at h
    exact .inl ⟨hb, h⟩
  · subst hb
    rw [get_push_new, upd_same] at h
    refine .inr ⟨rfl, ?_⟩
    cases x <;> first | exact h | exact h.elim
  · rw [List.getElem?_eq_none (by simp; omega)] at h
    exact h.elim

theorem Rep.putNew {X : Cx} {ρ : Nat → Value} {M M1 : Mem} {w w' : World} {u : Value} {x : Blk} (hR : Rep X ρ M1 w) (hE : Ext w ρ M w ρ M1)
    (hw : ∀ k, k < w.heap.size → ((∃ b, Owns ρ M1 b k) ∨ (∀ b, ¬ Owns ρ M b k)) → w'.heap[k]? = w.heap[k]?)
    (hro : ∀ k, k < X.W0.heap.size → w'.heap[k]? = w.heap[k]?)
    (hsz : w.heap.size ≤ w'.heap.size) (hos : w'.os = w.os) (htape : w'.tape = w.tape) (hout : w'.output = w.output)
    (hb : RepB X (envOf (upd ρ M1.length u) (M1 ++ [x])) w' u x)
    (hown : ∀ g, blkOf u = some g → (∀ b, ¬ Owns ρ M1 b g) ∧ X.W0.heap.size ≤ g ∧ ((∃ b, Owns ρ M b g) ∨ w.heap.size ≤ g)) :
    Rep X (upd ρ M1.length u) (M1 ++ [x]) w' ∧ Ext w ρ M w' (upd ρ M1.length u) (M1 ++ [x]) := by
  refine ⟨⟨?_, ?_, ?_, ?_, ?_⟩, ⟨?_, hos, htape, hout, hsz, ?_, ?_, ?_⟩⟩
  · intro b y hy
    rcases get_push_cases hy with ⟨hlt, hy'⟩ | ⟨rfl, rfl⟩
    · rw [upd_other ρ u (Nat.ne_of_lt hlt)]
      cases y
      case dead => trivial
      case hidC n => exact hR.blk b _ hy'
      case hidR t n => exact hR.blk b _ hy'
      all_goals
        refine (hR.blk b _ hy').same (env_to_push ρ M1 u x) fun g hg => ?_
        have ho : Owns ρ M1 b g := by unfold Owns; rw [hy']; exact hg
        exact hw g (hR.lt ho) (.inl ⟨b, ho⟩)
    · rw [upd_same]; exact hb
  · intro b b' g h h'
    rcases owns_push h with ⟨hlt, ho⟩ | ⟨rfl, hu⟩ <;> rcases owns_push h' with ⟨hlt', ho'⟩ | ⟨rfl, hu'⟩
    · exact hR.sep b b' g ho ho'
    · exact absurd ho ((hown g hu').1 b)
    · exact absurd ho' ((hown g hu).1 b')
    · rfl
  · intro b g h
    rcases owns_push h with ⟨hlt, ho⟩ | ⟨rfl, hu⟩
    · exact hR.base b g ho
    · exact (hown g hu).2.1
  · intro k hk
    rw [hro k hk]; exact hR.ro k hk
  · exact Nat.le_trans hR.sz hsz
  · have := hE.len; simp; omega
  · intro k hk hn
    exact hw k hk (.inr hn)
  · intro b g h
    rcases owns_push h with ⟨hlt, ho⟩ | ⟨rfl, hu⟩
    · exact hE.own b g ho
    · exact (hown g hu).2.2
  · exact Env.to_trans hE.keep (env_to_push ρ M1 u x)

/-- A new block that lies in new memory. -/
theorem Rep.push {X : Cx} {ρ : Nat → Value} {M : Mem} {w w' : World} {u : Value} {x : Blk} (hR : Rep X ρ M w)
    (hw : ∀ k, k < w.heap.size → w'.heap[k]? = w.heap[k]?) (hsz : w.heap.size ≤ w'.heap.size) (hos : w'.os = w.os) (htape : w'.tape = w.tape) (hout : w'.output = w.output)
    (hb : RepB X (envOf (upd ρ M.length u) (M ++ [x])) w' u x) (hown : ∀ g, blkOf u = some g → w.heap.size ≤ g) :
    Rep X (upd ρ M.length u) (M ++ [x]) w' ∧ Ext w ρ M w' (upd ρ M.length u) (M ++ [x]) :=
  hR.putNew (Ext.refl w ρ M) (fun k hk _ => hw k hk) (fun k hk => hw k (Nat.lt_of_lt_of_le hk hR.sz)) hsz hos htape hout hb
    (fun g hg => ⟨fun b ho => by have := hR.lt ho; have := hown g hg; omega, Nat.le_trans hR.sz (hown g hg), .inr (hown g hg)⟩)

/-! ### 2. A block that is let go -/
theorem get_set_cases {M : Mem} {x y : Blk} {b c : Nat} (h : (M.set b x)[c]? = some y) : (c = b ∧ b < M.length ∧ y = x) ∨ (c ≠ b ∧ M[c]? = some y) := by
  rcases Nat.decEq c b with hc | hc
  · exact .inr ⟨hc, by rwa [List.getElem?_set_ne (Ne.symm hc)] at h⟩
  · subst hc
    have hlt : c < M.length := by
      have := (List.getElem?_eq_some_iff.1 h).1
      simpa using this
    rw [List.getElem?_set_self hlt] at h
    exact .inl ⟨rfl, hlt, (Option.some.inj h).symm⟩
theorem get_set_other {M : Mem} {x : Blk} {b c : Nat} (h : c ≠ b) : (M.set b x)[c]? = M[c]? := List.getElem?_set_ne (Ne.symm h)

theorem env_to_kill (ρ : Nat → Value) (M : Mem) (b : Nat) : (envOf ρ M).to (envOf ρ (M.set b .dead)) := by
  intro c
  rcases Nat.decEq c b with hc | hc
  · refine .inr (.inr ?_)
    unfold envOf; rw [get_set_other hc]
  · subst hc
    rcases Nat.lt_or_ge c M.length with h | h
    · refine .inr (.inl ?_)
      unfold envOf; rw [List.getElem?_set_self h]; rfl
    · exact .inl (envOf_lt.2 h)
theorem owns_kill {ρ : Nat → Value} {M : Mem} {b c g : Nat} (h : Owns ρ (M.set b .dead) c g) : c ≠ b ∧ Owns ρ M c g := by
  unfold Owns at h
  rcases Nat.decEq c b with hc | hc
  · rw [get_set_other hc] at h; exact ⟨hc, h⟩
  · subst hc
    rcases Nat.lt_or_ge c M.length with hl | hl
    · rw [List.getElem?_set_self hl] at h; exact h.elim
    · rw [List.getElem?_eq_none (by simpa using hl)] at h; exact h.elim
theorem Rep.kill {X : Cx} {ρ : Nat → Value} {M : Mem} {w : World} (hR : Rep X ρ M w) (b : Nat) : Rep X ρ (M.set b .dead) w ∧ Ext w ρ M w ρ (M.set b .dead) := by
  refine ⟨⟨fun c y hy => ?_, fun c c' g h h' => hR.sep c c' g (owns_kill h).2 (owns_kill h').2, fun c g h => hR.base c g (owns_kill h).2, hR.ro, hR.sz⟩,
    ⟨by simp, rfl, rfl, rfl, Nat.le_refl _, fun _ _ _ => rfl, fun c g h => .inl ⟨c, (owns_kill h).2⟩, env_to_kill ρ M b⟩⟩
  rcases get_set_cases hy with ⟨rfl, _, rfl⟩ | ⟨hc, hy'⟩
  · trivial
  · exact (hR.blk c y hy').same (env_to_kill ρ M b) fun _ _ => rfl

/-! ### 3. A block whose content changes, its shape staying -/
theorem envOf_set {ρ : Nat → Value} {M : Mem} {b : Nat} {x y : Blk} (hx : M[b]? = some x) (hs : y.shape = x.shape) : envOf ρ (M.set b y) = envOf ρ M := by
  funext c
  unfold envOf
  rcases Nat.decEq c b with hc | hc
  · rw [get_set_other hc]
  · subst hc
    rw [List.getElem?_set_self (List.getElem?_eq_some_iff.1 hx).1, hx]
    show (match y.shape with | some s => En.ent (ρ c) s | none => En.dead) = (match x.shape with | some s => En.ent (ρ c) s | none => En.dead)
    rw [hs]
theorem owns_set {ρ : Nat → Value} {M : Mem} {b c g : Nat} {x y : Blk} (hx : M[b]? = some x) (hb : ∀ g, blkOf (ρ b) = some g → Owns ρ M b g) (h : Owns ρ (M.set b y) c g) : Owns ρ M c g := by
  rcases Nat.decEq c b with hc | hc
  · unfold Owns at h ⊢; rw [get_set_other hc] at h; exact h
  · subst hc
    refine hb g ?_
    unfold Owns at h
    rw [List.getElem?_set_self (List.getElem?_eq_some_iff.1 hx).1] at h
    cases y <;> first | exact h | exact h.elim
theorem Rep.change {X : Cx} {ρ : Nat → Value} {M : Mem} {w w' : World} {b : Nat} {x y : Blk} (hR : Rep X ρ M w) (hx : M[b]? = some x) (hs : y.shape = x.shape)
    (hbo : ∀ g, blkOf (ρ b) = some g → Owns ρ M b g)
    (hw : ∀ k, blkOf (ρ b) ≠ some k → w'.heap[k]? = w.heap[k]?) (hsz : w'.heap.size = w.heap.size) (hos : w'.os = w.os) (htape : w'.tape = w.tape) (hout : w'.output = w.output)
    (hb : RepB X (envOf ρ M) w' (ρ b) y) : Rep X ρ (M.set b y) w' ∧ Ext w ρ M w' ρ (M.set b y) := by
  have he := envOf_set (ρ := ρ) hx hs
  refine ⟨⟨fun c z hz => ?_, fun c c' g h h' => hR.sep c c' g (owns_set hx hbo h) (owns_set hx hbo h'), fun c g h => hR.base c g (owns_set hx hbo h), fun k hk => ?_, by rw [hsz]; exact hR.sz⟩,
    ⟨by simp, hos, htape, hout, by rw [hsz]; exact Nat.le_refl _, fun k hk hn => hw k fun hu => hn b (hbo k hu), fun c g h => .inl ⟨c, owns_set hx hbo h⟩, by rw [he]; exact Env.to_refl _⟩⟩
  · rw [he]
    rcases get_set_cases hz with ⟨rfl, _, rfl⟩ | ⟨hc, hz'⟩
    · exact hb
    · cases z
      case dead => trivial
      case hidC n => exact hR.blk c _ hz'
      case hidR t n => exact hR.blk c _ hz'
      all_goals
        refine (hR.blk c _ hz').same (Env.to_refl _) fun g hg => ?_
        have ho : Owns ρ M c g := by unfold Owns; rw [hz']; exact hg
        exact hw g fun hu => hc (hR.sep c b g ho (hbo g hu))
  · rw [hw k fun hu => ?_]
    · exact hR.ro k hk
    · have := hR.base b k (hbo k hu); omega

/-! ### 4. Rows -/
theorem vals_length (t : RTy) (xs : List t.T) : (vals t xs).length = xs.length * t.sz := by
  unfold vals
  induction xs with
  | nil => simp
  | cons x r ih => simp only [List.map_cons, List.flatten_cons, List.length_append, ih, List.length_map, RTy.enc_length, List.length_cons, Nat.add_mul, Nat.one_mul, Nat.add_comm]
theorem vals_append (t : RTy) (xs ys : List t.T) : vals t (xs ++ ys) = vals t xs ++ vals t ys := by simp [vals]
theorem vals_cons (t : RTy) (x : t.T) (xs : List t.T) : vals t (x :: xs) = (t.enc x).map PC.val ++ vals t xs := by simp [vals]
theorem vals_take (t : RTy) (xs : List t.T) (n : Nat) : (vals t xs).take (n * t.sz) = vals t (xs.take n) := by
  induction xs generalizing n with
  | nil => simp [vals]
  | cons x r ih =>
    cases n with
    | zero => simp [vals]
    | succ n =>
      rw [vals_cons, List.take_succ_cons, vals_cons, ← ih n]
      have hl : ((t.enc x).map PC.val).length = t.sz := by simp [RTy.enc_length]
      rw [List.take_append, hl]
      congr 1
      · exact List.take_of_length_le (by rw [hl, Nat.add_mul]; omega)
      · congr 1; rw [Nat.add_mul]; omega
theorem vals_drop (t : RTy) (xs : List t.T) (n : Nat) : (vals t xs).drop (n * t.sz) = vals t (xs.drop n) := by
  induction xs generalizing n with
  | nil => simp [vals]
  | cons x r ih =>
    cases n with
    | zero => simp [vals]
    | succ n =>
      rw [vals_cons, List.drop_succ_cons, ← ih n]
      have hl : ((t.enc x).map PC.val).length = t.sz := by simp [RTy.enc_length]
      rw [List.drop_append, hl, List.drop_of_length_le (by rw [hl, Nat.add_mul]; omega), List.nil_append]
      congr 1; rw [Nat.add_mul]; omega
/-- The cells of element i. -/
theorem vals_elem (t : RTy) (xs : List t.T) (i : Nat) (x : t.T) (h : xs[i]? = some x) : ((vals t xs).drop (i * t.sz)).take t.sz = (t.enc x).map PC.val := by
  rw [vals_drop]
  have hlt := (List.getElem?_eq_some_iff.1 h).1
  have hx : xs[i] = x := (List.getElem?_eq_some_iff.1 h).2
  rw [List.drop_eq_getElem_cons hlt, hx, vals_cons]
  rw [List.take_append_of_le_length (by simp [RTy.enc_length]), List.take_of_length_le (by simp [RTy.enc_length])]
theorem vals_split (t : RTy) (xs : List t.T) (i : Nat) (x : t.T) (h : xs[i]? = some x) : vals t xs = vals t (xs.take i) ++ ((t.enc x).map PC.val ++ vals t (xs.drop (i + 1))) := by
  have hlt := (List.getElem?_eq_some_iff.1 h).1
  have hx : xs[i] = x := (List.getElem?_eq_some_iff.1 h).2
  conv => lhs; rw [← List.take_append_drop i xs, List.drop_eq_getElem_cons hlt, hx]
  rw [vals_append, vals_cons]
theorem vals_set (t : RTy) (xs : List t.T) (i : Nat) (y : t.T) (h : i < xs.length) : vals t (xs.set i y) = vals t (xs.take i) ++ ((t.enc y).map PC.val ++ vals t (xs.drop (i + 1))) := by
  rw [vals_split t (xs.set i y) i y (by rw [List.getElem?_set_self h])]
  congr 2
  · rw [List.take_set_of_le (Nat.le_refl _)]
  · rw [List.drop_set_of_lt (Nat.lt_succ_self _)]

theorem setMany_length {α : Type} : ∀ (ds vs : List α) (i : Nat), (setMany vs i ds).length = vs.length
  | [], _, _ => rfl
  | d :: r, vs, i => by rw [setMany, setMany_length r]; simp
theorem setMany_map {α β : Type} (f : α → β) : ∀ (ds vs : List α) (i : Nat), (setMany vs i ds).map f = setMany (vs.map f) i (ds.map f)
  | [], _, _ => rfl
  | d :: r, vs, i => by simp only [setMany, List.map_cons, setMany_map f r, List.map_set]
theorem setMany_eq {α : Type} : ∀ (ds vs : List α) (i : Nat), i + ds.length ≤ vs.length → setMany vs i ds = vs.take i ++ ds ++ vs.drop (i + ds.length)
  | [], vs, i, h => by simp [setMany]
  | d :: r, vs, i, h => by
    simp only [List.length_cons] at h
    rw [setMany, setMany_eq r (vs.set i d) (i + 1) (by simp; omega)]
    have hi : i < vs.length := by omega
    have h1 : (vs.set i d).take (i + 1) = vs.take i ++ [d] := by
      rw [List.take_add_one, List.take_set_of_le (Nat.le_refl _), List.getElem?_set_self hi]
      rfl
    have h2 : i + 1 + r.length = i + (r.length + 1) := by omega
    rw [h1, List.drop_set_of_lt (by omega), h2]
    simp only [List.length_cons, List.append_assoc, List.cons_append, List.nil_append]
theorem Car.put_any {x y : Car} {i : Nat} {c : PC} (h : x.put i c = some y) (x' : Car) : ∃ y', x'.put i c = some y' := by
  unfold Car.put at h ⊢
  split at h <;> first | cases h; exact ⟨_, rfl⟩ | cases h
theorem Wait.put_any {x y : Wait} {i : Nat} {c : PC} (h : x.put i c = some y) (x' : Wait) : ∃ y', x'.put i c = some y' := by
  unfold Wait.put at h ⊢
  split at h <;> first | cases h; exact ⟨_, rfl⟩ | cases h
theorem Ask.put_any {x y : Ask} {i : Nat} {c : PC} (h : x.put i c = some y) (x' : Ask) : ∃ y', x'.put i c = some y' := by
  unfold Ask.put at h ⊢
  split at h <;> first | cases h; exact ⟨_, rfl⟩ | cases h
theorem Lease.put_any {x y : Lease} {i : Nat} {c : PC} (h : x.put i c = some y) (x' : Lease) : ∃ y', x'.put i c = some y' := by
  unfold Lease.put at h ⊢
  split at h <;> first | cases h; exact ⟨_, rfl⟩ | cases h
theorem Msg.put_any {x y : Msg} {i : Nat} {c : PC} (h : x.put i c = some y) (x' : Msg) : ∃ y', x'.put i c = some y' := by
  unfold Msg.put at h ⊢
  split at h <;> first | cases h; exact ⟨_, rfl⟩ | cases h
theorem Event.put_any {x y : Event} {i : Nat} {c : PC} (h : x.put i c = some y) (x' : Event) : ∃ y', x'.put i c = some y' := by
  unfold Event.put at h ⊢
  split at h <;> first | cases h; exact ⟨_, rfl⟩ | cases h
theorem Call.put_any {x y : Call} {i : Nat} {c : PC} (h : x.put i c = some y) (x' : Call) : ∃ y', x'.put i c = some y' := by
  unfold Call.put at h ⊢
  split at h <;> first | cases h; exact ⟨_, rfl⟩ | cases h
/-- Whether a cell can be put hangs on its place and kind alone. -/
theorem RTy.put_any {t : RTy} {x y : t.T} {i : Nat} {c : PC} (h : t.put x i c = some y) (x' : t.T) : ∃ y', t.put x' i c = some y' := by
  cases t with
  | car => exact Car.put_any h x'
  | wait => exact Wait.put_any h x'
  | ask => exact Ask.put_any h x'
  | lease => exact Lease.put_any h x'
  | msg => exact Msg.put_any h x'
  | event => exact Event.put_any h x'
  | call => exact Call.put_any h x'
  | int =>
    cases i with
    | succ i => cases h
    | zero =>
      cases c with
      | int k n => cases k <;> first | exact ⟨_, rfl⟩ | (cases h)
      | bool b => first | exact ⟨_, rfl⟩ | (cases h)
      | str s => first | exact ⟨_, rfl⟩ | (cases h)
  | bool =>
    cases i with
    | succ i => cases h
    | zero =>
      cases c with
      | int k n => cases k <;> first | exact ⟨_, rfl⟩ | (cases h)
      | bool b => first | exact ⟨_, rfl⟩ | (cases h)
      | str s => first | exact ⟨_, rfl⟩ | (cases h)
  | u8 =>
    cases i with
    | succ i => cases h
    | zero =>
      cases c with
      | int k n => cases k <;> first | exact ⟨_, rfl⟩ | (cases h)
      | bool b => first | exact ⟨_, rfl⟩ | (cases h)
      | str s => first | exact ⟨_, rfl⟩ | (cases h)
  | u64 =>
    cases i with
    | succ i => cases h
    | zero =>
      cases c with
      | int k n => cases k <;> first | exact ⟨_, rfl⟩ | (cases h)
      | bool b => first | exact ⟨_, rfl⟩ | (cases h)
      | str s => first | exact ⟨_, rfl⟩ | (cases h)
  | str =>
    cases i with
    | succ i => cases h
    | zero =>
      cases c with
      | int k n => cases k <;> first | exact ⟨_, rfl⟩ | (cases h)
      | bool b => first | exact ⟨_, rfl⟩ | (cases h)
      | str s => first | exact ⟨_, rfl⟩ | (cases h)
  | _ => simp [RTy.put] at h
theorem RTy.puts_any {t : RTy} : ∀ {ps : List PC} {x y : t.T} {i : Nat}, t.puts x i ps = some y → ∀ x' : t.T, ∃ y', t.puts x' i ps = some y'
  | [], x, y, i, h, x' => ⟨x', rfl⟩
  | c :: r, x, y, i, h, x' => by
    simp only [RTy.puts] at h ⊢
    split at h
    · rename_i z hz
      obtain ⟨z', hz'⟩ := RTy.put_any hz x'
      rw [hz']
      exact RTy.puts_any h z'
    · cases h
theorem RTy.puts_enc {t : RTy} : ∀ {ps : List PC} {x y : t.T} {i : Nat}, t.puts x i ps = some y → t.enc y = setMany (t.enc x) i ps ∧ (ps ≠ [] → i + ps.length ≤ t.sz)
  | [], x, y, i, h => by simp [RTy.puts] at h; subst h; exact ⟨rfl, fun hn => absurd rfl hn⟩
  | p :: r, x, y, i, h => by
    simp only [RTy.puts] at h
    split at h
    · rename_i z hz
      obtain ⟨h1, h2⟩ := RTy.put_enc hz
      obtain ⟨h3, h4⟩ := RTy.puts_enc h
      refine ⟨by rw [h3, h1]; rfl, fun _ => ?_⟩
      cases r with
      | nil => simp; omega
      | cons q s => have := h4 (by simp); simp at this ⊢; omega
    · cases h
end Lw
/- The abstract operations are what the machine's operations do. -/
set_option linter.unusedVariables false
set_option linter.unusedSimpArgs false
namespace Lw
open Go

/-! ### 1. The program's types -/
def czero : Cell → Value
  | .pl c => c.val
  | .nilp => .pointer none
  | _ => .slice none 0 0
def okZ : List Cell → Bool
  | [] => true
  | .pl _ :: r | .nilp :: r | .es :: r => okZ r
  | _ => false
def aggD : TypeDesc → Bool
  | .struct _ | .array _ _ => true
  | _ => false

structure AgreeT (X : Cx) (t : TypeId) (ti : TI) : Prop where
  size : (X.P.info? t).map (·.size) = some ti.size
  zero : ti.zero ≠ [] → okZ ti.zero = true ∧ ∃ z, (X.P.info? t).map (·.zero) = some (some z) ∧ z.cells.toList = ti.zero.map czero
  agg : ∃ d, X.P.underlying t = some d ∧ aggD d = ti.agg
  flds : ti.flds ≠ [] → ∃ fs : Array Field, X.P.underlying t = some (.struct fs) ∧ fs.toList.map (fun f => (f.offset, (X.P.info? f.type).map (·.size))) = ti.flds.map (fun x => (x.off, some x.sz)) ∧ (ti.flds.all fun x => decide (0 < x.sz)) = true
  fagg : ∀ fs : Array Field, X.P.underlying t = some (.struct fs) → ti.flds ≠ [] → fs.toList.map (fun f => (X.P.underlying f.type).map aggD) = ti.flds.map (fun x => some x.agg)
  elem : ∀ rt, ti.elem = some rt → X.P.underlying t = some (.slice (X.eid rt)) ∧ ∃ z b, (X.P.info? (X.eid rt)).map (fun i => (i.size, i.zero, i.bytes)) = some (rt.sz, some z, b) ∧ z.cells.toList = (rt.enc rt.zero).map PC.val ∧ b ≤ 1000
  ik : ∀ k, ti.ik = some k → X.P.underlying t = some (.int k)
  isBool : ti.isBool = true → X.P.underlying t = some .bool
  isPtr : ti.isPtr = true → ∃ e, X.P.underlying t = some (.pointer e)
  isStr : ti.isStr = true → X.P.underlying t = some .string
  eqk : ti.eqk = true → ∀ zs, plOf ti.zero = some zs → X.P.eqGuardType X.P.depth t = false ∧
    ∀ ps qs w, sameKinds zs ps = true → sameKinds zs qs = true → (Op.equalIn 10000 t (.agg (ps.map PC.val).toArray) (.agg (qs.map PC.val).toArray)).run X.P w = .ok (pcsEq ps qs) w
def Agree (X : Cx) (τ : Tys) : Prop := ∀ t ti, τ t = some ti → AgreeT X t ti

/-! ### 2. Operands -/
theorem constAV_rel {X : Cx} {E : Env} (v : Value) : RelA X E (constAV v) v := by
  unfold constAV
  split <;> first | rfl | trivial | exact ⟨none, rfl⟩
theorem oe_rel {X : Cx} {E : Env} {F : List AV} {a : Act} (h : RelF X E F a.tmps.toList) (x : Operand) : RelA X E (oe F x) (a.eval x) := by
  cases x with
  | const v => exact constAV_rel v
  | global g => trivial
  | func f => exact ⟨#[], #[], rfl, trivial, trivial⟩
  | tmp t =>
    show RelA X E (F.getD t .undef) (a.tmps.getD t undef)
    rw [List.getD_eq_getElem?_getD]
    cases hf : F[t]? with
    | some c =>
      obtain ⟨v, hv, hr⟩ := h.get t c hf
      have : a.tmps.getD t undef = v := by
        rw [Array.getD_eq_getD_getElem?, ← Array.getElem?_toList, hv]; rfl
      rw [this]; exact hr
    | none =>
      have hl : a.tmps.toList.length ≤ t := by rw [h.length]; simpa using hf
      have : a.tmps.getD t undef = undef := by
        rw [Array.getD_eq_getD_getElem?, ← Array.getElem?_toList, List.getElem?_eq_none hl]; rfl
      rw [this]; rfl
theorem putF_rel {X : Cx} {E : Env} {F : List AV} {a : Act} {x : AV} {v : Value} (h : RelF X E F a.tmps.toList) (hv : RelA X E x v) (d : Option Tmp) : RelF X E (putF F d x) (a.put d v).tmps.toList := by
  cases d with
  | none => exact h
  | some d =>
    show RelF X E (F.set d x) (a.tmps.setIfInBounds d v).toList
    rw [Array.toList_setIfInBounds]
    exact h.set hv d
theorem put_defers (a : Act) (d : Option Tmp) (v : Value) : (a.put d v).defers = a.defers := by cases d <;> rfl
theorem map_eval {X : Cx} {E : Env} {F : List AV} {a : Act} (h : RelF X E F a.tmps.toList) (xs : Array Operand) : RelF X E (xs.toList.map (oe F)) (xs.map a.eval).toList := by
  rw [Array.toList_map]
  exact RelF.ofOp (oe_rel h) xs.toList

/-! ### 3. What is to be shown of an operation -/
def OpOk (X : Cx) (o : Oper) (a : Act) (w : World) (ρ : Nat → Value) (M : Mem) (x : OR) : Prop :=
  ∀ (next : Act → World → Prop) (Q : Exit → Act → World → Prop),
    (∀ v w' ρ', RelA X (envOf ρ' x.mem) x.val v → Rep X ρ' x.mem w' → Ext w ρ M w' ρ' x.mem → next (a.put o.dst v) w') → o.wp X.P a w next Q

theorem OpOk.value {X : Cx} {o : Oper} {a : Act} {w w' : World} {ρ ρ' : Nat → Value} {M : Mem} {x : OR} {v : Value} (h : (execOp a.eval o).run X.P w = .ok (.value v) w')
    (hv : RelA X (envOf ρ' x.mem) x.val v) (hR : Rep X ρ' x.mem w') (hE : Ext w ρ M w' ρ' x.mem) : OpOk X o a w ρ M x := by
  intro next Q hn
  unfold Oper.wp
  rw [h, Oper.upon_value]
  exact hn v w' ρ' hv hR hE
theorem OpOk.skip {X : Cx} {o : Oper} {a : Act} {w w' : World} {ρ ρ' : Nat → Value} {M : Mem} {x : OR} (h : (execOp a.eval o).run X.P w = .ok .skip w')
    (hv : x.val = .undef) (hR : Rep X ρ' x.mem w') (hE : Ext w ρ M w' ρ' x.mem) : OpOk X o a w ρ M x := by
  intro next Q hn
  unfold Oper.wp
  rw [h, Oper.upon_skip]
  exact hn undef w' ρ' (by rw [hv]; rfl) hR hE
theorem OpOk.pure {X : Cx} {o : Oper} {a : Act} {w : World} {ρ : Nat → Value} {M : Mem} {p : Option Prop} {av : AV} {v : Value} (hR : Rep X ρ M w) (h : (execOp a.eval o).run X.P w = .ok (.value v) w)
    (hv : RelA X (envOf ρ M) av v) : OpOk X o a w ρ M ⟨p, av, M⟩ := OpOk.value h hv hR (Ext.refl w ρ M)

/-! ### 4. Numbers -/
theorem kEq_eq {j k : IntKind} (h : kEq j k = true) : j = k := by cases j <;> cases k <;> first | rfl | cases h
theorem aint_run {P : Program} {op : BinOp} {j k : IntKind} {a b : Int} {p : Option Prop} {av : AV} (h : aint op j a k b = some (p, av)) (hp : preOk p) (t : TypeId) (w : World) :
    ∃ c : PC, av = .one (.c (.pl c)) ∧ (binOp op t (.int j a) (.int k b)).run P w = .ok c.val w := by
  unfold aint at h
  split at h
  · cases h
    exact ⟨_, rfl, by
      have hp : 0 ≤ b := hp
      simp [binOp, Op.shift, shI, PC.val, Int.not_lt.2 hp]⟩
  · cases h
    exact ⟨_, rfl, by
      have hp : 0 ≤ b := hp
      simp [binOp, Op.shift, shI, PC.val, Int.not_lt.2 hp]⟩
  · cases hk : kEq j k with
    | false => rw [hk] at h; cases h
    | true =>
      rw [hk] at h
      have := kEq_eq hk
      subst this
      simp only [cond_true] at h
      split at h
      all_goals try (cases h; done)
      all_goals (cases h; refine ⟨_, rfl, ?_⟩)
      case h_1 | h_2 | h_3 => simp [binOp, Op.intArith, PC.val]
      case h_4 | h_5 =>
        have hp : b ≠ 0 := hp
        simp [binOp, Op.intDiv, PC.val, hp]
      case h_6 | h_7 | h_8 | h_9 => simp [binOp, Op.intBits, bitsI, PC.val]
      all_goals simp [binOp, Op.intCmp, PC.val]
theorem eqGuard_int {P : Program} (op : BinOp) (t : TypeId) (x y : Operand) (j k : IntKind) (a b : Int) (w : World) : (eqGuard op t x y (.int j a) (.int k b)).run P w = .ok () w := by
  cases op <;> simp [eqGuard]
theorem eqGuard_bool {P : Program} (op : BinOp) (t : TypeId) (x y : Operand) (a b : Bool) (w : World) : (eqGuard op t x y (.bool a) (.bool b)).run P w = .ok () w := by
  cases op <;> simp [eqGuard]
theorem eqGuard_ptr {P : Program} (op : BinOp) (t : TypeId) (x y : Operand) (a b : Option Addr) (w : World) : (eqGuard op t x y (.pointer a) (.pointer b)).run P w = .ok () w := by
  cases op <;> simp [eqGuard]

theorem run_equal_ptr_nil {P : Program} (w : World) (d : Nat) (t e : TypeId) (a : Option Addr) (hd : P.underlying t = some (.pointer e)) : (Op.equalIn (d + 1) t (.pointer a) (.pointer none)).run P w = .ok a.isNone w := by
  cases a <;> simp [Op.equalIn, run_underlying hd]
theorem run_eql_ptr_nil {P : Program} (w : World) (t e : TypeId) (a : Option Addr) (hd : P.underlying t = some (.pointer e)) : (binOp .eql t (.pointer a) (.pointer none)).run P w = .ok (.bool a.isNone) w := by
  simp only [binOp]
  simp [Op.equal, Op.maxDepth, run_equal_ptr_nil w 9999 t e a hd]
theorem run_neq_ptr_nil {P : Program} (w : World) (t e : TypeId) (a : Option Addr) (hd : P.underlying t = some (.pointer e)) : (binOp .neq t (.pointer a) (.pointer none)).run P w = .ok (.bool (!a.isNone)) w := by
  simp only [binOp]
  simp [Op.equal, Op.maxDepth, run_equal_ptr_nil w 9999 t e a hd]

theorem isLivePtr_rel {X : Cx} {ρ : Nat → Value} {M : Mem} {p : Cell} {v : Value} (h : isLivePtr M p = true) (hr : RelC X (envOf ρ M) p v) : ∃ a, v = .pointer (some a) := by
  cases p <;> simp only [isLivePtr] at h <;> try cases h
  case ptr b i off =>
    unfold live at h
    simp only [RelC] at hr
    split at hr
    · exact hr.elim
    · rename_i he
      unfold envOf at he
      cases hb : M[b]? with
      | none => rw [hb] at he; cases he
      | some x =>
        rw [hb] at he
        rw [at_of hb] at h
        cases x <;> simp [Blk.shape] at he h
    · obtain ⟨g, _, rfl, _⟩ := hr; exact ⟨_, rfl⟩
    · obtain ⟨g, m, c, _, rfl, _⟩ := hr; exact ⟨_, rfl⟩

theorem abin_sound {X : Cx} {τ : Tys} (hT : Agree X τ) {ρ : Nat → Value} {M : Mem} {op : BinOp} {t : TypeId} {x y : AV} {u v : Value} {p : Option Prop} {av : AV}
    (h : abin τ M op t x y = some (p, av)) (hp : preOk p) (hx : RelA X (envOf ρ M) x u) (hy : RelA X (envOf ρ M) y v) (xo yo : Operand) (w : World) :
    ∃ c : PC, av = .one (.c (.pl c)) ∧ ((eqGuard op t xo yo u v).run X.P w = .ok () w) ∧ (binOp op t u v).run X.P w = .ok c.val w := by
  unfold abin at h
  split at h
  · rename_i j a k b
    have hu : u = .int j a := hx
    have hv : v = .int k b := hy
    subst hu; subst hv
    obtain ⟨c, hc, hr⟩ := aint_run (P := X.P) h hp t w
    exact ⟨c, hc, eqGuard_int op t xo yo j k a b w, hr⟩
  · rename_i a b
    have hu : u = .bool a := hx
    have hv : v = .bool b := hy
    subst hu; subst hv
    split at h
    · rename_i ti hti
      have hA := hT t ti hti
      cases hb : ti.isBool with
      | false => rw [hb] at h; cases h
      | true =>
        rw [hb] at h
        have hd := hA.isBool hb
        simp only [cond_true] at h
        split at h
        · cases h
          refine ⟨_, rfl, eqGuard_bool _ t xo yo a b w, ?_⟩
          simp only [binOp]
          simp [Op.equal, Op.maxDepth, run_equalIn_bool' w 9999 t a b hd, PC.val]
        · cases h
          refine ⟨_, rfl, eqGuard_bool _ t xo yo a b w, ?_⟩
          simp only [binOp]
          simp [Op.equal, Op.maxDepth, run_equalIn_bool' w 9999 t a b hd, PC.val]
        · cases h
    · cases h
  · rename_i xs ys
    split at h
    · rename_i ti ps qs hti hps hqs
      have hA := hT t ti hti
      obtain ⟨us, rfl, hru⟩ := (hx : ∃ cs : Array Value, u = .agg cs ∧ RelCs X _ xs cs.toList)
      obtain ⟨vs, rfl, hrv⟩ := (hy : ∃ cs : Array Value, v = .agg cs ∧ RelCs X _ ys cs.toList)
      rw [plOf_eq hps] at hru
      rw [plOf_eq hqs] at hrv
      have hus : us = (ps.map PC.val).toArray := by rw [← hru.vals]
      have hvs : vs = (qs.map PC.val).toArray := by rw [← hrv.vals]
      cases hk : (ti.eqk && kindsFit ti.zero ps qs) with
      | false => rw [hk] at h; cases h
      | true =>
        rw [hk] at h
        simp only [cond_true] at h
        rw [Bool.and_eq_true] at hk
        obtain ⟨hk1, hk2⟩ := hk
        unfold kindsFit at hk2
        split at hk2
        · rename_i zs hzs
          rw [Bool.and_eq_true] at hk2
          obtain ⟨hg, hl⟩ := hA.eqk hk1 zs hzs
          have he := hl ps qs w hk2.1 hk2.2
          subst hus; subst hvs
          split at h
          · cases h
            refine ⟨_, rfl, run_eqGuard_agg w _ t xo yo _ _ hg, ?_⟩
            rw [run_eql_struct, he]; rfl
          · cases h
            refine ⟨_, rfl, run_eqGuard_agg w _ t xo yo _ _ hg, ?_⟩
            rw [run_neq_struct, he]; rfl
          · cases h
        · cases hk2
    · cases h
  · rename_i p' q' hnot1 hnot2
    split at h
    · rename_i ti hti
      have hA := hT t ti hti
      cases hb : ti.isPtr with
      | false => rw [hb] at h; cases h
      | true =>
        rw [hb] at h
        obtain ⟨e, hd⟩ := hA.isPtr hb
        simp only [cond_true] at h
        split at h
        · cases h
          have hu : u = .pointer none := hx
          have hv : v = .pointer none := hy
          subst hu; subst hv
          refine ⟨_, rfl, eqGuard_ptr _ t xo yo _ _ w, ?_⟩
          exact run_eql_ptr_nil w t e none hd
        · cases h
          have hu : u = .pointer none := hx
          have hv : v = .pointer none := hy
          subst hu; subst hv
          refine ⟨_, rfl, eqGuard_ptr _ t xo yo _ _ w, ?_⟩
          exact run_neq_ptr_nil w t e none hd
        · cases hl : isLivePtr M p' with
          | false => rw [hl] at h; cases h
          | true =>
            rw [hl] at h
            cases h
            obtain ⟨ad, rfl⟩ := isLivePtr_rel hl (show RelC X (envOf ρ M) p' u from hx)
            have hv : v = .pointer none := hy
            subst hv
            refine ⟨_, rfl, eqGuard_ptr _ t xo yo _ _ w, ?_⟩
            exact run_eql_ptr_nil w t e (some ad) hd
        · cases hl : isLivePtr M p' with
          | false => rw [hl] at h; cases h
          | true =>
            rw [hl] at h
            cases h
            obtain ⟨ad, rfl⟩ := isLivePtr_rel hl (show RelC X (envOf ρ M) p' u from hx)
            have hv : v = .pointer none := hy
            subst hv
            refine ⟨_, rfl, eqGuard_ptr _ t xo yo _ _ w, ?_⟩
            exact run_neq_ptr_nil w t e (some ad) hd
        · cases h
    · cases h
  · cases h
end Lw
/- The abstract operations on memory are what the machine's operations do. -/
set_option linter.unusedVariables false
set_option linter.unusedSimpArgs false
namespace Lw
open Go

/-! ### 1. Reading -/
theorem add_none (g o n : Nat) : (⟨g, o, none⟩ : Addr).add n = ⟨g, o + n, none⟩ := by
  unfold Addr.add; split
  · rename_i h; subst h; rfl
  · rfl
theorem info_of {P : Program} {t : TypeId} {n : Nat} (h : (P.info? t).map (·.size) = some n) : ∃ i, P.info? t = some i ∧ i.size = n := by
  cases hi : P.info? t with
  | none => rw [hi] at h; cases h
  | some i => rw [hi] at h; exact ⟨i, rfl, by simpa using h⟩
theorem run_sizeOf {P : Program} {t : TypeId} {n : Nat} (h : (P.info? t).map (·.size) = some n) (w : World) : (Go.sizeOf t).run P w = .ok n w := by
  obtain ⟨i, hi, rfl⟩ := info_of h
  simp [Go.sizeOf, typeInfo, hi]
theorem run_isAgg {P : Program} {t : TypeId} {d : TypeDesc} (h : P.underlying t = some d) (w : World) : (isAgg t).run P w = .ok (aggD d) w := by
  cases d <;> simp [isAgg, run_underlying h, aggD]

theorem loadVar_run {X : Cx} {t : TypeId} {ti : TI} (hA : AgreeT X t ti) {E : Env} {w : World} {g off : Nat} {cs : List Cell} {vs : List Value} {av : AV}
    (hcs : cs.length = ti.size) (hr : RelCs X E cs vs) (hc : ∀ j v, vs[j]? = some v → w.cell? ⟨g, off + j, none⟩ = some v) (hav : ofCells ti cs = some av) :
    ∃ v, (loadVar t ⟨g, off, none⟩).run X.P w = .ok v w ∧ RelA X E av v := by
  obtain ⟨d, hd, hag⟩ := hA.agg
  unfold ofCells at hav
  split at hav
  · rename_i hti
    cases hav
    have hl : (loadCells ⟨g, off, none⟩ vs.length).run X.P w = .ok vs.toArray w := by
      refine run_loadCells_list w ⟨g, off, none⟩ vs fun j v hv => ?_
      rw [add_none]; exact hc j v hv
    refine ⟨.agg vs.toArray, ?_, ⟨vs.toArray, rfl, by simpa using hr⟩⟩
    rw [hr.length, hcs] at hl
    simp only [loadVar, Sem.run_bind, run_isAgg hd, hag, hti, Result.andThen_ok, if_true, run_sizeOf hA.size, hl, Sem.run_pure]
  · rename_i hti
    split at hav
    · rename_i c
      cases hav
      cases vs with
      | nil => exact hr.elim
      | cons v r =>
        have h0 := hc 0 v rfl
        refine ⟨v, ?_, hr.1⟩
        simp only [loadVar, Sem.run_bind, run_isAgg hd, hag, hti, Result.andThen_ok, Bool.false_eq_true, if_false, run_load]
        rw [show (⟨g, off, none⟩ : Addr) = ⟨g, off + 0, none⟩ from rfl, h0]
    · cases hav

theorem cell_at {w : World} {g k : Nat} {cs : Array Value} {e : TypeId} {fr : Nat × Nat} (hg : w.heap[g]? = some (.cells cs e fr)) {v : Value} (h : cs.toList[k]? = some v) : w.cell? ⟨g, k, none⟩ = some v := by
  rw [cell_of_row w g k cs e fr hg, ← Array.getElem?_toList]; exact h
theorem cells_part {w : World} {g off n : Nat} {cs : Array Value} {e : TypeId} {fr : Nat × Nat} (hg : w.heap[g]? = some (.cells cs e fr)) :
    ∀ j v, ((cs.toList.drop off).take n)[j]? = some v → w.cell? ⟨g, off + j, none⟩ = some v := by
  intro j v hv
  rw [List.getElem?_take] at hv
  split at hv
  · rw [List.getElem?_drop] at hv; exact cell_at hg hv
  · cases hv
/-- The cells of element i of a row. -/
theorem row_part {w : World} {g n i off m : Nat} {cur : Array Value} {e : TypeId} {fr : Nat × Nat} {t : RTy} {xs : List t.T} (hg : w.heap[g]? = some (.cells cur e fr))
    (ht : cur.toList.take (xs.length * t.sz) = vals t xs) {x : t.T} (hx : xs[i]? = some x) (hm : off + m ≤ t.sz) :
    ∀ j v, ((((t.enc x).map PC.val).drop off).take m)[j]? = some v → w.cell? ⟨g, i * t.sz + off + j, none⟩ = some v := by
  intro j v hv
  rw [List.getElem?_take] at hv
  split at hv
  · rename_i hj
    rw [List.getElem?_drop, ← vals_elem t xs i x hx, List.getElem?_take] at hv
    split at hv
    · rw [List.getElem?_drop, ← ht, List.getElem?_take] at hv
      split at hv
      · rw [Nat.add_assoc]; exact cell_at hg hv
      · cases hv
    · cases hv
  · cases hv

theorem getD_of {α : Type} {xs : List α} {i : Nat} (h : i < xs.length) (d : α) : xs[i]? = some (xs.getD i d) := by
  rw [List.getD_eq_getElem?_getD, List.getElem?_eq_getElem h]; rfl

theorem ptr_cells {X : Cx} {ρ : Nat → Value} {M : Mem} {w : World} {b i off : Nat} {vs : List Cell} {v : Value} (hR : Rep X ρ M w) (hb : M.at b = .cells vs) (hv : RelC X (envOf ρ M) (.ptr b i off) v) :
    ∃ g cs e, ρ b = .pointer (some ⟨g, 0, none⟩) ∧ v = .pointer (some ⟨g, off, none⟩) ∧ w.heap[g]? = some (.cells cs e (0, 0)) ∧ RelCs X (envOf ρ M) vs cs.toList ∧ i = 0 := by
  have hb' := of_at hb (by simp)
  obtain ⟨g, cs, e, hu, hg, hr⟩ := hR.blk b _ hb'
  have he : envOf ρ M b = .ent (ρ b) (.cells vs.length) := by unfold envOf; rw [hb']; rfl
  simp only [RelC, he] at hv
  obtain ⟨g', hu', hv', hi⟩ := hv
  rw [hu] at hu'
  have : g = g' := by simpa using hu'
  subst this
  exact ⟨g, cs, e, hu, hv', hg, hr, hi⟩
theorem ptr_row {X : Cx} {ρ : Nat → Value} {M : Mem} {w : World} {b i off : Nat} {t : RTy} {xs : List t.T} {v : Value} (hR : Rep X ρ M w) (hb : M.at b = .row t xs) (hv : RelC X (envOf ρ M) (.ptr b i off) v) :
    ∃ g cap cur, ρ b = .slice (some ⟨g, 0, none⟩) xs.length cap ∧ v = .pointer (some ⟨g, i * t.sz + off, none⟩) ∧ 0 < cap ∧ w.heap[g]? = some (.cells cur (X.eid t) (0, 0)) ∧ xs.length ≤ cap ∧ cap ≤ maxLen ∧ cur.size = cap * t.sz ∧
      cur.toList.take (xs.length * t.sz) = vals t xs ∧ i < xs.length := by
  have hb' := of_at hb (by simp)
  have he : envOf ρ M b = .ent (ρ b) (.row t xs.length) := by unfold envOf; rw [hb']; rfl
  simp only [RelC, he] at hv
  obtain ⟨g, m, c, hu, hv', hi⟩ := hv
  rcases hR.blk b _ hb' with ⟨rfl, _⟩ | ⟨g', cap, cur, hu', hc, hg, h1, h2, h3, h4⟩
  · simp at hi
  · rw [hu'] at hu
    have : g' = g := by injection hu with h; injection h with h; injection h
    subst this
    exact ⟨g', cap, cur, hu', hv', hc, hg, h1, h2, h3, h4, hi⟩

theorem run_loadAt {P : Program} {t : TypeId} {a : Addr} {w : World} {v : Value} (h : (loadVar t a).run P w = .ok v w) : (Instr.loadAt t (.pointer (some a))).run P w = .ok v w := by
  simp [Instr.loadAt, Instr.sureAddr, h]
theorem execOp_load {P : Program} {o : Oper} {t : TypeId} {x : Operand} (ho : o.op = .load t x) {ρ : Operand → Value} {w : World} {v : Value} (h : (Instr.loadAt t (ρ x)).run P w = .ok v w) : (execOp ρ o).run P w = .ok (.value v) w := by
  simp [execOp, ho, h]

theorem load_sound {X : Cx} {τ : Tys} (hT : Agree X τ) {o : Oper} {F : List AV} {M : Mem} {a : Act} {w : World} {ρ : Nat → Value} {x : OR} {t : TypeId} {y : Operand} (ho : o.op = .load t y)
    (h : aop τ o F M = some x) (hF : RelF X (envOf ρ M) F a.tmps.toList) (hR : Rep X ρ M w) : OpOk X o a w ρ M x := by
  unfold aop at h
  rw [ho] at h
  simp only at h
  have hy := oe_rel hF y
  split at h
  · rename_i ti b i off hti hoe
    rw [hoe] at hy
    split at h
    · rename_i vs hb
      cases hle : Nat.ble (off + ti.size) vs.length with
      | false => rw [hle] at h; cases h
      | true =>
        rw [hle] at h
        simp only [cond_true] at h
        have hle' := Nat.le_of_ble_eq_true hle
        obtain ⟨g, cs, e, hu, hv, hg, hr, hi⟩ := ptr_cells hR hb hy
        cases hc : ofCells ti ((vs.drop off).take ti.size) with
        | none => rw [hc] at h; cases h
        | some av =>
          rw [hc] at h
          cases h
          obtain ⟨v, hv1, hv2⟩ := loadVar_run (hT t ti hti) (w := w) (g := g) (off := off) (by simp; omega) ((hr.drop off).take ti.size) (cells_part hg) hc
          exact OpOk.pure hR (execOp_load ho (by rw [hv]; exact run_loadAt hv1)) hv2
    · rename_i rt xs hb
      cases hle : Nat.ble (off + ti.size) rt.sz with
      | false => rw [hle] at h; cases h
      | true =>
        rw [hle] at h
        simp only [cond_true] at h
        have hle' := Nat.le_of_ble_eq_true hle
        obtain ⟨g, cap, cur, hu, hv, hcap, hg, h1, h2, h3, h4, hi⟩ := ptr_row hR hb hy
        cases hc : ofCells ti ((((rt.enc (xs.getD i rt.zero)).map Cell.pl).drop off).take ti.size) with
        | none => rw [hc] at h; cases h
        | some av =>
          rw [hc] at h
          cases h
          obtain ⟨v, hv1, hv2⟩ := loadVar_run (hT t ti hti) (E := envOf ρ M) (w := w) (g := g) (off := i * rt.sz + off) (by simp [RTy.enc_length]; omega) (((RelCs.pl _).drop off).take ti.size) (row_part (n := 0) hg h4 (getD_of hi rt.zero) hle') hc
          exact OpOk.pure hR (execOp_load ho (by rw [hv]; exact run_loadAt hv1)) hv2
    · cases h
  · rename_i ti cs hti hoe
    rw [hoe] at hy
    obtain ⟨g, off, hv, hcells⟩ := hy
    cases hle : Nat.ble ti.size cs.length with
    | false => rw [hle] at h; cases h
    | true =>
      rw [hle] at h
      simp only [cond_true] at h
      have hle' := Nat.le_of_ble_eq_true hle
      cases hc : ofCells ti (cs.take ti.size) with
      | none => rw [hc] at h; cases h
      | some av =>
        rw [hc] at h
        cases h
        have hw0 : ∀ (ad : Addr) (v : Value), X.W0.cell? ad = some v → w.cell? ad = some v := by
          intro ad v hv
          have hlt := World.block_lt_of_cell? _ _ hv
          rw [World.cell?_of_block (w := X.W0) (hR.ro ad.block hlt)]; exact hv
        have hall : ∀ (l : List Cell) (o' : Nat), (∀ j c, l[j]? = some c → ∃ p, c = .pl p ∧ X.W0.cell? ⟨g, o' + j, none⟩ = some p.val) → ∃ vs, RelCs X (envOf ρ M) l vs ∧ ∀ j v, vs[j]? = some v → w.cell? ⟨g, o' + j, none⟩ = some v := by
          intro l
          induction l with
          | nil => intro o' _; exact ⟨[], trivial, fun j v hv => by simp at hv⟩
          | cons c r ih =>
            intro o' hl
            obtain ⟨p, rfl, hp⟩ := hl 0 c rfl
            obtain ⟨vs, h1, h2⟩ := ih (o' + 1) (fun j d hd => by
              obtain ⟨q, hq, hq'⟩ := hl (j + 1) d (by simpa using hd)
              exact ⟨q, hq, by rw [show o' + 1 + j = o' + (j + 1) from by omega]; exact hq'⟩)
            refine ⟨p.val :: vs, ⟨rfl, h1⟩, fun j v hv => ?_⟩
            cases j with
            | zero => simp at hv; subst hv; exact hw0 _ _ hp
            | succ j => rw [show o' + (j + 1) = o' + 1 + j from by omega]; exact h2 j v (by simpa using hv)
        obtain ⟨vs, hr, hcs⟩ := hall (cs.take ti.size) off (fun j c hj => by
          rw [List.getElem?_take] at hj
          split at hj
          · exact hcells j c hj
          · cases hj)
        obtain ⟨v, hv1, hv2⟩ := loadVar_run (hT t ti hti) (w := w) (g := g) (off := off) (by simp; omega) hr hcs hc
        exact OpOk.pure hR (execOp_load ho (by rw [hv]; exact run_loadAt hv1)) hv2
  · cases h

/-! ### 2. Writing -/
theorem cellsOf_rel {X : Cx} {E : Env} {x : AV} {cs : List Cell} {v : Value} (h : cellsOf x = some cs) (hv : RelA X E x v) : RelCs X E cs v.cells.toList := by
  cases x <;> simp only [cellsOf] at h <;> try cases h
  case one y =>
    cases y with
    | c c =>
      simp only [cellsOf] at h; cases h
      have h1 := RelC.one (show RelC X E c v from hv)
      have : v.cells = #[v] := by cases v <;> first | rfl | cases h1
      rw [this]
      exact ⟨hv, trivial⟩
    | agg xs =>
      simp only [cellsOf] at h; cases h
      obtain ⟨us, rfl, hr⟩ := hv
      exact hr

theorem storeVar_run {X : Cx} {t : TypeId} {ti : TI} (hA : AgreeT X t ti) {E : Env} {w : World} {g off : Nat} {cur : Array Value} {e : TypeId} {cs : List Cell} {v : Value}
    (hg : w.heap[g]? = some (.cells cur e (0, 0))) (hr : RelCs X E cs v.cells.toList) (hcs : cs.length = ti.size) (hle : off + ti.size ≤ cur.size) :
    (Instr.storeAt t (.pointer (some ⟨g, off, none⟩)) v).run X.P w = .ok () (w.setRow g (setMany cur.toList off v.cells.toList).toArray) := by
  have hl : v.cells.size = ti.size := by have := hr.length; simp at this; omega
  have hs := run_storeCells_at (P := X.P) g off e v.cells.toList 0 cur w hg (by simp; omega) hr.one
  rw [setMany_eq v.cells.toList cur.toList off (by simp; omega)]
  simp only [Nat.add_zero] at hs
  simp only [Instr.storeAt, Instr.sureAddr, storeVar, Sem.run_bind, Sem.run_pure, Result.andThen_ok, run_sizeOf hA.size]
  simp only [hl, ne_eq, not_true_eq_false, if_false, hs]
theorem execOp_store {P : Program} {o : Oper} {t : TypeId} {x y : Operand} (ho : o.op = .store t x y) {ρ : Operand → Value} {w w' : World} (h : (Instr.storeAt t (ρ x) (ρ y)).run P w = .ok () w') : (execOp ρ o).run P w = .ok .skip w' := by
  simp [execOp, ho, h]
theorem owns_cells {ρ : Nat → Value} {M : Mem} {b : Nat} {vs : List Cell} (hb : M[b]? = some (.cells vs)) : ∀ g, blkOf (ρ b) = some g → Owns ρ M b g := by
  intro g hg; unfold Owns; rw [hb]; exact hg
theorem owns_row {ρ : Nat → Value} {M : Mem} {b : Nat} {t : RTy} {xs : List t.T} (hb : M[b]? = some (.row t xs)) : ∀ g, blkOf (ρ b) = some g → Owns ρ M b g := by
  intro g hg; unfold Owns; rw [hb]; exact hg
theorem blkOf_slice {g n cap : Nat} (h : 0 < cap) : blkOf (.slice (some ⟨g, 0, none⟩) n cap) = some g := by
  obtain ⟨c, rfl⟩ : ∃ c, cap = c + 1 := ⟨cap - 1, by omega⟩
  rfl

/-- A row whose content changes. -/
theorem row_change {X : Cx} {ρ : Nat → Value} {M : Mem} {w : World} {b g cap : Nat} {cur : Array Value} {t : RTy} {xs ys : List t.T} (hR : Rep X ρ M w) (hb : M[b]? = some (.row t xs))
    (hu : ρ b = .slice (some ⟨g, 0, none⟩) xs.length cap) (hc : 0 < cap) (hg : w.heap[g]? = some (.cells cur (X.eid t) (0, 0))) (h1 : xs.length ≤ cap) (h2 : cap ≤ maxLen) {cur' : Array Value}
    (hs : cur'.size = cap * t.sz) (hl : ys.length = xs.length) (hv : cur'.toList.take (ys.length * t.sz) = vals t ys) :
    Rep X ρ (M.set b (.row t ys)) (w.setRow g cur') ∧ Ext w ρ M (w.setRow g cur') ρ (M.set b (.row t ys)) := by
  refine hR.change hb (by simp [Blk.shape, hl]) (owns_row hb) (fun k hk => ?_) (by simp) rfl rfl rfl ?_
  · refine setRow_other w g k _ fun hkg => hk ?_
    rw [hu, blkOf_slice hc, hkg]
  · exact .inr ⟨g, cap, cur', by rw [hu, hl], hc, setRow_heap w g cur _ _ _ hg, by omega, h2, hs, hv⟩

theorem set_take_vals {t : RTy} {xs : List t.T} {cur : List Value} {i off : Nat} {ps : List PC} {y : t.T} (hi : i < xs.length) (hcur : xs.length * t.sz ≤ cur.length) (h4 : cur.take (xs.length * t.sz) = vals t xs)
    (hy : t.enc y = setMany (t.enc (xs.getD i t.zero)) off ps) (hle : off + ps.length ≤ t.sz) :
    (setMany cur (i * t.sz + off) (ps.map PC.val)).take ((xs.set i y).length * t.sz) = vals t (xs.set i y) := by
  have hx := getD_of hi t.zero
  have hbnd : (i + 1) * t.sz ≤ xs.length * t.sz := Nat.mul_le_mul_right _ hi
  rw [Nat.add_mul, Nat.one_mul] at hbnd
  have hps : (ps.map PC.val).length = ps.length := by simp
  -- both sides cell by cell
  apply List.ext_getElem?
  intro k
  rw [List.length_set]
  by_cases hk : k < xs.length * t.sz
  · rw [List.getElem?_take, if_pos hk, setMany_eq _ _ _ (by rw [hps]; omega), hps]
    rw [vals_set t xs i y hi, hy, setMany_map, setMany_eq _ _ _ (by simp [RTy.enc_length]; omega)]
    have hcurk : cur[k]? = (vals t xs)[k]? := by rw [← h4, List.getElem?_take, if_pos hk]
    have hsplit := vals_split t xs i _ hx
    have hl1 : (vals t (xs.take i)).length = i * t.sz := by rw [vals_length, List.length_take, Nat.min_eq_left (by omega)]
    have hle1 : ((t.enc (xs.getD i t.zero)).map PC.val).length = t.sz := by simp [RTy.enc_length]
    rw [hps]
    by_cases h1 : k < i * t.sz
    · rw [List.append_assoc, List.getElem?_append_left (by simp; omega), List.getElem?_take, if_pos (by omega), hcurk, hsplit, List.getElem?_append_left (by omega), List.getElem?_append_left (by omega)]
    · rw [List.getElem?_append_right (show (vals t (xs.take i)).length ≤ k from by omega), hl1]
      by_cases h2 : k < i * t.sz + off
      · rw [List.append_assoc, List.getElem?_append_left (by simp; omega), List.getElem?_take, if_pos h2, hcurk, hsplit, List.getElem?_append_right (by omega), hl1, List.getElem?_append_left (by omega)]
        rw [List.getElem?_append_left (by simp [RTy.enc_length]; omega), List.append_assoc, List.getElem?_append_left (by simp [RTy.enc_length]; omega), List.getElem?_take, if_pos (by omega)]
      · by_cases h3 : k < i * t.sz + off + ps.length
        · rw [List.append_assoc, List.getElem?_append_right (by simp; omega), List.getElem?_append_left (by simp; omega)]
          rw [List.getElem?_append_left (by simp [RTy.enc_length]; omega), List.append_assoc, List.getElem?_append_right (by simp [RTy.enc_length]; omega), List.getElem?_append_left (by simp [RTy.enc_length]; omega)]
          congr 1
          simp [RTy.enc_length]; omega
        · rw [List.getElem?_append_right (by simp; omega), List.getElem?_drop]
          have hidx : i * t.sz + off + ps.length + (k - (List.take (i * t.sz + off) cur ++ List.map PC.val ps).length) = k := by simp; omega
          rw [hidx, hcurk, hsplit, List.getElem?_append_right (by omega), hl1]
          by_cases h5 : k < i * t.sz + t.sz
          · rw [List.getElem?_append_left (by omega), List.getElem?_append_left (by simp [RTy.enc_length]; omega), List.getElem?_append_right (by simp [RTy.enc_length]; omega), List.getElem?_drop]
            congr 1
            simp [RTy.enc_length]; omega
          · rw [List.getElem?_append_right (by omega), List.getElem?_append_right (by simp [RTy.enc_length]; omega)]
            congr 1
            simp [RTy.enc_length]; omega
  · rw [List.getElem?_take, if_neg hk]
    symm
    apply List.getElem?_eq_none
    rw [vals_length, List.length_set]; omega
end Lw
/- The other abstract operations are what the machine's operations do. -/
set_option linter.unusedVariables false
set_option linter.unusedSimpArgs false
namespace Lw
open Go

theorem set_same {M : Mem} {b : Nat} {x : Blk} (h : M[b]? = some x) : M.set b x = M := by
  apply List.ext_getElem?
  intro k
  rw [List.getElem?_set]
  split
  · rename_i hk; subst hk
    rw [if_pos (List.getElem?_eq_some_iff.1 h).1, h]
  · rfl
theorem store_sound {X : Cx} {τ : Tys} (hT : Agree X τ) {o : Oper} {F : List AV} {M : Mem} {a : Act} {w : World} {ρ : Nat → Value} {x : OR} {t : TypeId} {y z : Operand} (ho : o.op = .store t y z)
    (h : aop τ o F M = some x) (hF : RelF X (envOf ρ M) F a.tmps.toList) (hR : Rep X ρ M w) : OpOk X o a w ρ M x := by
  unfold aop at h
  rw [ho] at h
  simp only at h
  have hy := oe_rel hF y
  have hz := oe_rel hF z
  split at h
  · rename_i ti b i off cs hti hoe hcs
    rw [hoe] at hy
    have hrc := cellsOf_rel hcs hz
    cases hsz : Nat.beq cs.length ti.size with
    | false => rw [hsz] at h; cases h
    | true =>
      rw [hsz] at h
      simp only [cond_true] at h
      have hsz' := Nat.eq_of_beq_eq_true hsz
      split at h
      · rename_i vs hb
        cases hle : Nat.ble (off + ti.size) vs.length with
        | false => rw [hle] at h; cases h
        | true =>
          rw [hle] at h
          cases h
          have hle' := Nat.le_of_ble_eq_true hle
          obtain ⟨g, cur, e, hu, hv, hg, hr, hi⟩ := ptr_cells hR hb hy
          have hb' := of_at hb (by simp)
          have hst := storeVar_run (hT t ti hti) (off := off) hg hrc hsz' (by have := hr.length; simp at this; omega)
          rw [← hv] at hst
          have hch := hR.change (w' := w.setRow g (setMany cur.toList off (a.eval z).cells.toList).toArray) (y := .cells (setMany vs off cs)) hb' (by simp [Blk.shape, setMany_length]) (owns_cells hb')
            (fun k hk => setRow_other w g k _ fun hkg => hk (by rw [hu, hkg]; rfl)) (by simp) rfl rfl rfl
            ⟨g, _, e, hu, setRow_heap w g cur _ e _ hg, by simpa using RelCs.setMany hrc off hr⟩
          exact OpOk.skip (execOp_store ho hst) rfl hch.1 hch.2
      · rename_i rt xs hb
        split at h
        · rename_i ps hps
          split at h
          · rename_i yz hyz
            cases h
            obtain ⟨yv, hy'⟩ := RTy.puts_any hyz (xs.getD i rt.zero)
            rw [show putAt rt xs i off ps = xs.set i yv by unfold putAt; rw [hy']]
            obtain ⟨g, cap, cur, hu, hv, hcap, hg, h1, h2, h3, h4, hi⟩ := ptr_row hR hb hy
            have hb' := of_at hb (by simp)
            rw [plOf_eq hps] at hrc
            have hvals := hrc.vals
            obtain ⟨henc, hbnd⟩ := RTy.puts_enc hy'
            have hpl : ps.length = ti.size := by rw [← hsz', plOf_eq hps]; simp
            have hmul : (i + 1) * rt.sz ≤ xs.length * rt.sz := Nat.mul_le_mul_right _ hi
            have hmul2 : xs.length * rt.sz ≤ cap * rt.sz := Nat.mul_le_mul_right _ h1
            rw [Nat.add_mul, Nat.one_mul] at hmul
            by_cases hne : ps = []
            · subst hne
              have hz0 : ti.size = 0 := by simpa using hpl.symm
              -- nothing is stored
              have hyv : yv = xs.getD i rt.zero := by simp [RTy.puts] at hy'; exact hy'.symm
              have hset : xs.set i yv = xs := by
                rw [hyv]
                apply List.ext_getElem?
                intro k
                rw [List.getElem?_set]
                split
                · rename_i hk; subst hk; exact (getD_of hi rt.zero).symm
                · rfl
              have hst : (Instr.storeAt t (a.eval y) (a.eval z)).run X.P w = .ok () w := by
                rw [hv]
                have hl : (a.eval z).cells.size = ti.size := by rw [hz0]; have := congrArg List.length hvals; simpa using this
                have hnil : (a.eval z).cells.toList = [] := by rw [hvals]; rfl
                simp only [Instr.storeAt, Instr.sureAddr, storeVar, Sem.run_bind, Sem.run_pure, Result.andThen_ok, run_sizeOf (hT t ti hti).size, hl, ne_eq, not_true_eq_false, if_false, hnil, storeCells]
              refine OpOk.skip (w' := w) (ρ' := ρ) (execOp_store ho hst) rfl ?_ ?_
              · show Rep X ρ (M.set b (.row rt (xs.set i yv))) w
                rw [hset, set_same hb']; exact hR
              · show Ext w ρ M w ρ (M.set b (.row rt (xs.set i yv)))
                rw [hset, set_same hb']; exact Ext.refl _ _ _
            · have hb2 := hbnd hne
              have hst := storeVar_run (hT t ti hti) (E := envOf ρ M) (off := i * rt.sz + off) hg hrc (by simp; omega) (by rw [h3]; omega)
              rw [← hv, hvals] at hst
              have hch := row_change (ys := xs.set i yv) (cur' := (setMany cur.toList (i * rt.sz + off) (ps.map PC.val)).toArray) hR hb' hu hcap hg h1 h2 (by simp [setMany_length, h3]) (by simp)
                (by simpa using set_take_vals hi (by simp; omega) h4 henc hb2)
              exact OpOk.skip (execOp_store ho hst) rfl hch.1 hch.2
          · cases h
        · cases h
      · cases h
  · cases h
/-! ### New variables -/
theorem alloc_old (w : World) (o : Obj) (k : Nat) (hk : k < w.heap.size) : (w.alloc o).heap[k]? = w.heap[k]? := by
  show (w.heap.push o)[k]? = _
  rw [Array.getElem?_push, if_neg (by omega)]
theorem newVar_run {X : Cx} {E : Env} (t : TypeId) (v : Value) (w : World) : (newVar t v).run X.P w = .ok ⟨w.heap.size, 0, none⟩ (w.alloc (.cells v.cells t)) := by
  simp [newVar, newRow]
theorem box_ok {X : Cx} {o : Oper} {M : Mem} {a : Act} {w : World} {ρ : Nat → Value} {p : Option Prop} {cs : List Cell} {v : Value} {t : TypeId} (hR : Rep X ρ M w) (hr : RelCs X (envOf ρ M) cs v.cells.toList)
    (h : (execOp a.eval o).run X.P w = .ok (.value (.pointer (some ⟨w.heap.size, 0, none⟩))) (w.alloc (.cells v.cells t))) : OpOk X o a w ρ M ⟨p, .one (.c (.ptr M.length 0 0)), M ++ [.cells cs]⟩ := by
  have hp := hR.push (w' := w.alloc (.cells v.cells t)) (u := .pointer (some ⟨w.heap.size, 0, none⟩)) (x := .cells cs) (fun k hk => Lw.alloc_old w _ k hk) (by simp) rfl rfl rfl
    ⟨w.heap.size, v.cells, t, rfl, heap_alloc_new w _, hr.to (env_to_push ρ M _ _)⟩ (fun g hg => by simp [blkOf] at hg; omega)
  refine OpOk.value h ?_ hp.1 hp.2
  show RelC X _ (.ptr M.length 0 0) _
  simp only [RelC, envOf_push_new ρ M _ (.cells cs) rfl]
  exact ⟨w.heap.size, rfl, rfl, trivial⟩
theorem okZ_rel {X : Cx} (E : Env) : ∀ {cs : List Cell}, okZ cs = true → RelCs X E cs (cs.map czero)
  | [], _ => trivial
  | c :: r, h => by
    cases c <;> simp only [okZ] at h <;> try cases h
    case pl p => exact ⟨rfl, okZ_rel E h⟩
    case nilp => exact ⟨rfl, okZ_rel E h⟩
    case es => exact ⟨⟨none, rfl⟩, okZ_rel E h⟩
theorem zero_of {X : Cx} {t : TypeId} {ti : TI} (hA : AgreeT X t ti) (h : ti.zero ≠ []) : ∃ z, (∀ w, (zeroValue t).run X.P w = .ok z w) ∧ ∀ E, RelCs X E ti.zero z.cells.toList := by
  obtain ⟨hk, z, hz, hc⟩ := hA.zero h
  refine ⟨z, fun w => ?_, fun E => by rw [hc]; exact okZ_rel E hk⟩
  cases hi : X.P.info? t with
  | none => rw [hi] at hz; cases hz
  | some i =>
    rw [hi] at hz
    have : i.zero = some z := by simpa using hz
    simp [zeroValue, typeInfo, hi, this]

/-! ### Fields and elements -/
theorem field_of {X : Cx} {t : TypeId} {ti : TI} (hA : AgreeT X t ti) {f : Nat} {fi : FI} (h : ti.flds[f]? = some fi) :
    ∃ (fs : Array Field) (fd : Field), X.P.underlying t = some (.struct fs) ∧ fs[f]? = some fd ∧ fd.offset = fi.off ∧ (X.P.info? fd.type).map (·.size) = some fi.sz ∧ 0 < fi.sz := by
  obtain ⟨fs, hd, hm, hp⟩ := hA.flds (by intro e; rw [e] at h; simp at h)
  have h1 : (ti.flds.map (fun x : FI => (x.off, some x.sz)))[f]? = some (fi.off, some fi.sz) := by simp [h]
  rw [← hm] at h1
  simp only [List.getElem?_map, Option.map_eq_some_iff] at h1
  obtain ⟨fd, hfd, he⟩ := h1
  refine ⟨fs, fd, hd, by rw [← Array.getElem?_toList]; exact hfd, (Prod.mk.inj he).1, (Prod.mk.inj he).2, ?_⟩
  have := List.all_eq_true.1 hp fi (List.mem_of_getElem? h)
  simpa using this
theorem run_fieldAt {P : Program} {t : TypeId} {fs : Array Field} {f n : Nat} {fd : Field} (hd : P.underlying t = some (.struct fs)) (hf : fs[f]? = some fd) (hs : (P.info? fd.type).map (·.size) = some n) (hn : 0 < n) (g o : Nat) (w : World) :
    (Instr.fieldAt t (.pointer (some ⟨g, o, none⟩)) f).run P w = .ok (.pointer (some ⟨g, o + fd.offset, none⟩)) w := by
  have hn' : n ≠ 0 := by omega
  simp only [Instr.fieldAt, Sem.run_bind, run_underlying hd, Result.andThen_ok, hf, Instr.sureAddr, Sem.run_pure, fieldPlace, run_sizeOf hs, if_neg hn', add_none]

theorem same_eq {t u : RTy} (h : t.same u = true) : t = u := by cases t <;> cases u <;> first | rfl | cases h
theorem cast_eq : ∀ {t u : RTy} {xs : List t.T} {ys : List u.T}, t.cast u xs = some ys → ∃ h : t = u, h ▸ xs = ys := by
  intro t u xs ys h
  cases t <;> cases u <;> first | (simp only [RTy.cast] at h; cases h; exact ⟨rfl, rfl⟩) | (simp [RTy.cast] at h)
theorem elem_of {X : Cx} {t : TypeId} {ti : TI} (hA : AgreeT X t ti) {rt : RTy} (h : ti.elem = some rt) :
    X.P.underlying t = some (.slice (X.eid rt)) ∧ ∃ i z, X.P.info? (X.eid rt) = some i ∧ i.size = rt.sz ∧ i.zero = some z ∧ z.cells.toList = (rt.enc rt.zero).map PC.val ∧ i.bytes ≤ 1000 := by
  obtain ⟨hd, z, b, hi, hz, hb⟩ := hA.elem rt h
  refine ⟨hd, ?_⟩
  cases hj : X.P.info? (X.eid rt) with
  | none => rw [hj] at hi; cases hi
  | some i =>
    rw [hj] at hi
    simp only [Option.map_some, Option.some.injEq, Prod.mk.injEq] at hi
    exact ⟨i, z, rfl, hi.1, hi.2.1, hz, by rw [hi.2.2]; exact hb⟩

theorem run_indexAt {P : Program} {t e : TypeId} {n : Nat} (hd : P.underlying t = some (.slice e)) (hs : (P.info? e).map (·.size) = some n) (k : IntKind) (i : Int) (ad : Addr) (m c : Nat) (w : World) (h0 : 0 ≤ i) (h1 : i < m) :
    (Instr.indexAt t (.slice (some ad) m c) (.int k i)).run P w = .ok (.pointer (some (ad.add (i.toNat * n)))) w := by
  simp only [Instr.indexAt, asIntOf, Sem.run_bind, Sem.run_pure, Result.andThen_ok, run_underlying hd]
  simp [h0, h1, run_sizeOf hs]
theorem intOf_rel {X : Cx} {E : Env} {x : AV} {n : Int} {v : Value} (h : intOf? x = some n) (hv : RelA X E x v) : ∃ k, v = .int k n := by
  unfold intOf? at h
  split at h
  · rename_i k m
    cases h
    exact ⟨k, hv⟩
  · cases h
theorem execOp_indexAddr {P : Program} {o : Oper} {t : TypeId} {x y : Operand} (ho : o.op = .indexAddr t x y) {ρ : Operand → Value} {w : World} {v : Value} (h : (Instr.indexAt t (ρ x) (ρ y)).run P w = .ok v w) : (execOp ρ o).run P w = .ok (.value v) w := by
  simp [execOp, ho, h]
theorem env_at_row {ρ : Nat → Value} {M : Mem} {b : Nat} {t : RTy} {xs : List t.T} (hb : M.at b = .row t xs) : envOf ρ M b = .ent (ρ b) (.row t xs.length) := by
  unfold envOf; rw [of_at hb (by simp)]; rfl
theorem env_at_hidR {ρ : Nat → Value} {M : Mem} {b : Nat} {t : RTy} {n : Nat} (hb : M.at b = .hidR t n) : envOf ρ M b = .ent (ρ b) (.row t n) := by
  unfold envOf; rw [of_at hb (by simp)]; rfl

theorem indexAddr_sound {X : Cx} {τ : Tys} (hT : Agree X τ) {o : Oper} {F : List AV} {M : Mem} {a : Act} {w : World} {ρ : Nat → Value} {x : OR} {t : TypeId} {y z : Operand} (ho : o.op = .indexAddr t y z)
    (h : aop τ o F M = some x) (hp : preOk x.pre) (hF : RelF X (envOf ρ M) F a.tmps.toList) (hR : Rep X ρ M w) : OpOk X o a w ρ M x := by
  unfold aop at h
  rw [ho] at h
  simp only at h
  have hy := oe_rel hF y
  have hz := oe_rel hF z
  split at h
  · rename_i ti i hti hi
    obtain ⟨k, hk⟩ := intOf_rel hi hz
    have hA := hT t ti hti
    split at h
    · rename_i rt b hel hoe
      rw [hoe] at hy
      obtain ⟨hd, j, zz, hj, hsz, _⟩ := elem_of hA hel
      have hs : (X.P.info? (X.eid rt)).map (·.size) = some rt.sz := by rw [hj]; simp [hsz]
      split at h
      · rename_i u xs hb
        cases hu : u.same rt with
        | false => rw [hu] at h; cases h
        | true =>
          rw [hu] at h; cases h
          have := same_eq hu; subst this
          obtain ⟨h0, h1⟩ := (hp : 0 ≤ i ∧ i < xs.length)
          simp only [RelA, RelV1, RelC, env_at_row hb] at hy
          obtain ⟨hyv, aa, mm, cc, hua⟩ := hy
          rcases hR.blk b _ (of_at hb (by simp)) with ⟨rfl, _⟩ | ⟨g, cap, cur, hub, hc, hg, r1, r2, r3, r4⟩
          · simp at h1; omega
          · refine OpOk.pure hR (v := .pointer (some ⟨g, i.toNat * u.sz + 0, none⟩)) (execOp_indexAddr ho ?_) ?_
            · rw [hyv, hub, hk, run_indexAt hd hs k i _ _ _ w h0 h1, add_none]; simp
            · show RelC X _ (.ptr b i.toNat 0) _
              simp only [RelC, env_at_row hb]
              exact ⟨g, xs.length, cap, hub, rfl, by omega⟩
      · rename_i u n hb
        cases hu : u.same rt with
        | false => rw [hu] at h; cases h
        | true =>
          rw [hu] at h; cases h
          have := same_eq hu; subst this
          obtain ⟨h0, h1⟩ := (hp : 0 ≤ i ∧ i < n)
          simp only [RelA, RelV1, RelC, env_at_hidR hb] at hy
          obtain ⟨hyv, aa, mm, cc, hua⟩ := hy
          rcases hR.blk b _ (of_at hb (by simp)) with ⟨rfl, _⟩ | ⟨g, cap, hub, hc, r1⟩
          · omega
          · refine OpOk.pure hR (v := .pointer (some ⟨g, i.toNat * u.sz + 0, none⟩)) (execOp_indexAddr ho ?_) ?_
            · rw [hyv, hub, hk, run_indexAt hd hs k i _ _ _ w h0 h1, add_none]; simp
            · show RelC X _ (.ptr b i.toNat 0) _
              simp only [RelC, env_at_hidR hb]
              exact ⟨g, n, cap, hub, rfl, by omega⟩
      · cases h
    · rename_i rt b lo len hel hoe
      rw [hoe] at hy
      obtain ⟨hd, j, zz, hj, hsz, _⟩ := elem_of hA hel
      have hs : (X.P.info? (X.eid rt)).map (·.size) = some rt.sz := by rw [hj]; simp [hsz]
      split at h
      · rename_i u xs hb
        cases hu : u.same rt with
        | false => rw [hu] at h; cases h
        | true =>
          rw [hu] at h; cases h
          have := same_eq hu; subst this
          obtain ⟨⟨h0, h1⟩, h2⟩ := (hp : (0 ≤ i ∧ i < len) ∧ lo + len ≤ xs.length)
          simp only [RelA, RelV1, RelC, env_at_row hb] at hy
          obtain ⟨aa, cap', a', hua, hyv, hle, ha0, ha1⟩ := hy
          rcases hR.blk b _ (of_at hb (by simp)) with ⟨rfl, _⟩ | ⟨g, cap, cur, hub, hc, hg, r1, r2, r3, r4⟩
          · simp at h2; omega
          · rw [hub] at hua
            obtain ⟨rfl, _, rfl⟩ : (some (⟨g, 0, none⟩ : Addr)) = aa ∧ xs.length = xs.length ∧ cap = cap' := by injection hua with e1 e2 e3; exact ⟨e1, rfl, e3⟩
            have ha := ha1 (by omega)
            subst ha
            refine OpOk.pure hR (v := .pointer (some ⟨g, (lo + i.toNat) * u.sz + 0, none⟩)) (execOp_indexAddr ho ?_) ?_
            · rw [hyv, hk]
              have := run_indexAt (P := X.P) hd hs k i ⟨g, lo * u.sz, none⟩ len (cap - lo) w h0 h1
              simp only [Option.map_some]
              rw [this, add_none, Nat.add_mul]; simp
            · show RelC X _ (.ptr b (lo + i.toNat) 0) _
              simp only [RelC, env_at_row hb]
              exact ⟨g, xs.length, cap, hub, rfl, by omega⟩
      · cases h
    · rename_i rt u xs hel hoe
      rw [hoe] at hy
      obtain ⟨hd, j, zz, hj, hsz, _⟩ := elem_of hA hel
      cases hu : u.same rt with
      | false => rw [hu] at h; cases h
      | true =>
        rw [hu] at h; cases h
        have := same_eq hu; subst this
        have hs : (X.P.info? (X.eid u)).map (·.size) = some u.sz := by rw [hj]; simp [hsz]
        obtain ⟨h0, h1⟩ := (hp : 0 ≤ i ∧ i < xs.length)
        obtain ⟨aa, cc, hyv, _, hcells⟩ := hy
        have hx := getD_of (show i.toNat < xs.length by omega) u.zero
        obtain ⟨g, o', rfl, hc⟩ := hcells _ _ hx
        refine OpOk.pure hR (v := .pointer (some ⟨g, o' + i.toNat * u.sz, none⟩)) (execOp_indexAddr ho ?_) ?_
        · rw [hyv, hk, run_indexAt hd hs k i _ _ _ w h0 h1, add_none]
        · refine ⟨g, _, rfl, fun j c hj => ?_⟩
          simp only [List.getElem?_map, Option.map_eq_some_iff] at hj
          obtain ⟨p, hp', rfl⟩ := hj
          exact ⟨p, rfl, by rw [Nat.add_assoc]; exact hc j p hp'⟩
    · cases h
  · cases h
end Lw
/- Structs and slices that are built; calls of builtins; the abstract operations but for calls, together. -/
set_option linter.unusedVariables false
set_option linter.unusedSimpArgs false
namespace Lw
open Go

/-! ### 1. Filling -/
theorem foldl_set {off : Nat} : ∀ (l : List Value) (k : Nat) (cs : Array Value),
    ((l.zipIdx k).foldl (fun cs (x : Value × Nat) => cs.setIfInBounds (off + x.2) x.1) cs).toList = setMany cs.toList (off + k) l
  | [], _, _ => rfl
  | v :: r, k, cs => by
    rw [List.zipIdx_cons, List.foldl_cons, foldl_set r (k + 1)]
    simp [setMany, Nat.add_assoc]
theorem fill_eq (place : Nat → Option (Nat × Nat)) (i : Nat) (v : Value) (rest : List (Nat × Value)) (cells : Array Value) (off size : Nat) (hp : place i = some (off, size)) (hs : v.cells.size = size) (hl : off + v.cells.size ≤ cells.size) :
    Instr.fill place cells ((i, v) :: rest) = Instr.fill place (setMany cells.toList off v.cells.toList).toArray rest := by
  rw [Instr.fill, hp]
  simp only
  have hn : (decide (v.cells.size ≠ size) || decide (off + v.cells.size > cells.size)) = false := by
    simp [hs]; omega
  rw [if_neg (by simpa using hn)]
  congr 1
  apply Array.ext'
  rw [← Array.foldl_toList, Array.toList_zipIdx]
  have := foldl_set (off := off) v.cells.toList 0 cells
  simpa using this

theorem fillS_run {X : Cx} {E : Env} {flds : List FI} {places : List (Nat × Nat)} (hpl : places = flds.map fun x => (x.off, x.sz)) :
    ∀ {ps : List (Nat × AV)} {vs : List (Nat × Value)} {cs out : List Cell} {cells : Array Value}, ps.map (·.1) = vs.map (·.1) → RelF X E (ps.map (·.2)) (vs.map (·.2)) → RelCs X E cs cells.toList → fillS flds cs ps = some out →
      ∃ res : Array Value, Instr.fill (fun x => places[x]?) cells vs = some res ∧ RelCs X E out res.toList
  | [], [], cs, out, cells, _, _, hr, h => by
    simp [fillS] at h; subst h
    exact ⟨cells, rfl, hr⟩
  | (i, x) :: r, (j, v) :: s, cs, out, cells, h1, h2, hr, h => by
    simp only [List.map_cons, List.cons.injEq] at h1
    obtain ⟨rfl, h1⟩ := h1
    simp only [fillS] at h
    split at h
    · rename_i fi us hfi hus
      cases hb : (Nat.beq us.length fi.sz && Nat.ble (fi.off + us.length) cs.length) with
      | false => rw [hb] at h; cases h
      | true =>
        rw [hb] at h
        simp only [cond_true] at h
        rw [Bool.and_eq_true] at hb
        have hb1 := Nat.eq_of_beq_eq_true hb.1
        have hb2 := Nat.le_of_ble_eq_true hb.2
        have hrv := cellsOf_rel hus h2.1
        have hl1 := hrv.length
        have hl2 := hr.length
        simp at hl1 hl2
        have hst := fill_eq (fun x => places[x]?) i v s cells fi.off fi.sz (by simp [hpl, hfi]) (by omega) (by omega)
        obtain ⟨res, h3, h4⟩ := fillS_run hpl (cells := (setMany cells.toList fi.off v.cells.toList).toArray) h1 h2.2 (by simpa using RelCs.setMany hrv fi.off hr) h
        exact ⟨res, by rw [hst]; exact h3, h4⟩
    · cases h
  | [], _ :: _, _, _, _, h, _, _, _ => by simp at h
  | _ :: _, [], _, _, _, h, _, _, _ => by simp at h

theorem mapM_places {P : Program} : ∀ (fs : List Field) (ts : List (Nat × Nat)), fs.map (fun f => (f.offset, (P.info? f.type).map (·.size))) = ts.map (fun x => (x.1, some x.2)) →
    fs.mapM (fun f => (P.info? f.type).map fun i => (f.offset, i.size)) = some ts
  | [], [], _ => rfl
  | f :: r, t :: s, h => by
    simp only [List.map_cons, List.cons.injEq, Prod.mk.injEq] at h
    obtain ⟨⟨h1, h2⟩, h3⟩ := h
    rw [List.mapM_cons, mapM_places r s h3]
    cases hi : P.info? f.type with
    | none => rw [hi] at h2; cases h2
    | some i =>
      rw [hi] at h2
      have : i.size = t.2 := by simpa using h2
      obtain ⟨t1, t2⟩ := t
      simp only at h1 this
      subst h1; subst this
      rfl
  | [], _ :: _, h => by simp at h
  | _ :: _, [], h => by simp at h

theorem map_parts {X : Cx} {E : Env} {F : List AV} {a : Act} (hF : RelF X E F a.tmps.toList) (ps : Array (Nat × Operand)) :
    RelF X E ((ps.toList.map fun p => (p.1, oe F p.2)).map (·.2)) ((ps.map fun (i, x) => (i, a.eval x)).toList.map (·.2)) ∧
    (ps.toList.map fun p => (p.1, oe F p.2)).map (·.1) = ((ps.map fun (i, x) => (i, a.eval x)).toList.map (·.1)) := by
  refine ⟨?_, by simp [List.map_map, Function.comp_def]⟩
  have h := RelF.ofOp (fun y => oe_rel hF y) (ps.toList.map (·.2))
  have e1 : (ps.toList.map fun p => (p.1, oe F p.2)).map (·.2) = (ps.toList.map (·.2)).map (oe F) := by simp [List.map_map, Function.comp_def]
  have e2 : ((ps.map fun (i, x) => (i, a.eval x)).toList.map (·.2)) = (ps.toList.map (·.2)).map a.eval := by simp [List.map_map, Function.comp_def]
  rw [e1, e2]; exact h
theorem build_sound {X : Cx} {τ : Tys} (hT : Agree X τ) {o : Oper} {F : List AV} {M : Mem} {a : Act} {w : World} {ρ : Nat → Value} {x : OR} {t : TypeId} {ps : Array (Nat × Operand)} (ho : o.op = .build t ps)
    (h : aop τ o F M = some x) (hF : RelF X (envOf ρ M) F a.tmps.toList) (hR : Rep X ρ M w) : OpOk X o a w ρ M x := by
  unfold aop at h
  rw [ho] at h
  simp only at h
  split at h
  · rename_i ti hti
    have hA := hT t ti hti
    split at h
    · rename_i f0 fr z0 zr hf hz
      split at h
      · rename_i cs hcs
        cases h
        rw [← hf, ← hz] at hcs
        obtain ⟨hk, z, hzi, hzc⟩ := hA.zero (by rw [hz]; simp)
        obtain ⟨fs, hd, hm, _⟩ := hA.flds (by rw [hf]; simp)
        have hpl := mapM_places (P := X.P) fs.toList (ti.flds.map fun x => (x.off, x.sz)) (by rw [hm, List.map_map]; rfl)
        obtain ⟨hp1, hp2⟩ := map_parts hF ps
        obtain ⟨res, h1, h2⟩ := fillS_run (E := envOf ρ M) (X := X) (places := ti.flds.map fun x => (x.off, x.sz)) rfl (cells := z.cells) hp2 hp1 (by rw [hzc]; exact okZ_rel _ hk) hcs
        refine OpOk.pure hR (v := .agg res) ?_ ⟨res, rfl, h2⟩
        have hb : X.P.built t (ps.map fun (i, x) => (i, a.eval x)).toList = some res := by
          unfold Program.built
          cases hi : X.P.info? t with
          | none => rw [hi] at hzi; cases hzi
          | some it =>
            rw [hi] at hzi
            have hz' : it.zero = some z := by simpa using hzi
            simp only [hd, hz', hpl]
            have e : (fun x : Nat => (List.map (fun x : FI => (x.off, x.sz)) ti.flds).toArray[x]?) = (fun x : Nat => (List.map (fun x : FI => (x.off, x.sz)) ti.flds)[x]?) := by funext x; simp
            rw [e]
            exact h1
        simp only [execOp, ho, Sem.run_bind, run_build w t _ res hb, Result.andThen_ok, Sem.run_pure]
      · cases h
    · cases h
  · cases h

/-! ### 2. Slice literals -/
theorem mk_enc {t : RTy} {ps : List PC} {x : t.T} (h : t.mk ps = some x) : t.enc x = ps := by
  unfold RTy.mk at h
  cases hb : (ps.length == t.sz) with
  | false => rw [hb] at h; cases h
  | true =>
    rw [hb] at h
    simp only [cond_true] at h
    have hl : ps.length = t.sz := by simpa using hb
    rw [(RTy.puts_enc h).1, setMany_eq _ _ _ (by simp [RTy.enc_length, hl]), hl]
    simp [RTy.enc_length]
theorem setMany_mid {α : Type} (A B ds : List α) (h : ds.length ≤ B.length) : setMany (A ++ B) A.length ds = (A ++ ds) ++ B.drop ds.length := by
  rw [setMany_eq _ _ _ (by simp; omega)]
  simp
theorem elems_fill {X : Cx} {E : Env} {t : RTy} : ∀ {ps : List (Nat × AV)} {vs : List (Nat × Value)} {done xs : List t.T} {rest : List Value} {cells : Array Value}, ps.map (·.1) = vs.map (·.1) → RelF X E (ps.map (·.2)) (vs.map (·.2)) →
    elemsOf t done.length ps = some xs → cells.toList = vals t done ++ rest → rest.length = xs.length * t.sz → ∃ res : Array Value, Instr.fill (fun i => some (i * t.sz, t.sz)) cells vs = some res ∧ res.toList = vals t (done ++ xs)
  | [], [], done, xs, rest, cells, _, _, h, hc, hr => by
    simp [elemsOf] at h; subst h
    have : rest = [] := List.eq_nil_of_length_eq_zero (by simpa using hr)
    subst this
    exact ⟨cells, rfl, by simpa using hc⟩
  | (i, x) :: r, (j, v) :: s, done, xs, rest, cells, h1, h2, h, hc, hr => by
    simp only [List.map_cons, List.cons.injEq] at h1
    obtain ⟨rfl, h1⟩ := h1
    simp only [elemsOf] at h
    cases hb : Nat.beq i done.length with
    | false => rw [hb] at h; cases h
    | true =>
      rw [hb] at h
      simp only [cond_true] at h
      have hi := Nat.eq_of_beq_eq_true hb
      subst hi
      split at h
      · rename_i cs hcs
        split at h
        · rename_i pcs hpcs
          split at h
          · rename_i y ys hy hys
            cases h
            have hrv := cellsOf_rel hcs h2.1
            rw [plOf_eq hpcs] at hrv
            have hv := hrv.vals
            rw [← mk_enc hy] at hv
            have hvl : v.cells.size = t.sz := by have := congrArg List.length hv; simpa [RTy.enc_length] using this
            have hdl : (vals t done).length = done.length * t.sz := vals_length t done
            have hcl : cells.size = done.length * t.sz + (ys.length + 1) * t.sz := by
              have := congrArg List.length hc
              simp [hdl, hr] at this
              exact this
            rw [fill_eq _ _ v s cells (done.length * t.sz) t.sz rfl hvl (by rw [hcl, hvl, Nat.add_mul, Nat.one_mul]; omega)]
            have hset : setMany cells.toList (done.length * t.sz) v.cells.toList = vals t (done ++ [y]) ++ rest.drop t.sz := by
              rw [hc, ← hdl, setMany_mid _ _ _ (by simp [hvl, hr, Nat.add_mul]), hv, vals_append]
              simp [vals, RTy.enc_length]
            have hih := elems_fill (t := t) (ps := r) (vs := s) (done := done ++ [y]) (xs := ys) (rest := rest.drop t.sz) (cells := (setMany cells.toList (done.length * t.sz) v.cells.toList).toArray) h1 h2.2 (by simpa using hys) (by rw [List.toList_toArray]; exact hset) (by rw [List.length_drop, hr]; simp [Nat.add_mul])
            obtain ⟨res, h3, h4⟩ := hih
            exact ⟨res, h3, by rw [h4]; simp⟩
          · cases h
        · cases h
      · cases h
  | [], _ :: _, _, _, _, _, h, _, _, _, _ => by simp at h
  | _ :: _, [], _, _, _, _, h, _, _, _, _ => by simp at h

/-- A new row that lies in new memory. -/
theorem row_ok {X : Cx} {o : Oper} {M : Mem} {a : Act} {w w' : World} {ρ : Nat → Value} {p : Option Prop} {t : RTy} {xs : List t.T} {u : Value} (hR : Rep X ρ M w)
    (h : (execOp a.eval o).run X.P w = .ok (.value u) w') (hw : ∀ k, k < w.heap.size → w'.heap[k]? = w.heap[k]?) (hsz : w.heap.size ≤ w'.heap.size) (hos : w'.os = w.os) (htape : w'.tape = w.tape) (hout : w'.output = w.output)
    (hb : ∀ E, RepB X E w' u (.row t xs)) (hown : ∀ g, blkOf u = some g → w.heap.size ≤ g) : OpOk X o a w ρ M ⟨p, .one (.c (.row M.length)), M ++ [.row t xs]⟩ := by
  have hp := hR.push (u := u) (x := .row t xs) hw hsz hos htape hout (hb _) hown
  refine OpOk.value h ?_ hp.1 hp.2
  show RelC X _ (.row M.length) _
  simp only [RelC, envOf_push_new ρ M u (.row t xs) rfl]
  refine ⟨trivial, ?_⟩
  rcases hb (fun _ => .out) with ⟨_, ad, hu⟩ | ⟨g, cap, cur, hu, _⟩
  · exact ⟨ad, 0, 0, hu⟩
  · exact ⟨_, _, _, hu⟩
theorem repB_new {X : Cx} {E : Env} {w : World} {t : RTy} {xs : List t.T} {g cap : Nat} {cur : Array Value} (hg : w.heap[g]? = some (.cells cur (X.eid t) (0, 0))) (h1 : xs.length ≤ cap) (h2 : cap ≤ maxLen) (h3 : cur.size = cap * t.sz)
    (h4 : cur.toList.take (xs.length * t.sz) = vals t xs) : RepB X E w (.slice (some ⟨g, 0, none⟩) xs.length cap) (.row t xs) := by
  by_cases hc : cap = 0
  · subst hc
    have : xs = [] := List.eq_nil_of_length_eq_zero (by omega)
    subst this
    exact .inl ⟨rfl, _, rfl⟩
  · exact .inr ⟨g, cap, cur, rfl, by omega, hg, h1, h2, h3, h4⟩

theorem buildSlice_sound {X : Cx} {τ : Tys} (hT : Agree X τ) {o : Oper} {F : List AV} {M : Mem} {a : Act} {w : World} {ρ : Nat → Value} {x : OR} {t : TypeId} {len : Nat} {ps : Array (Nat × Operand)} (ho : o.op = .buildSlice t len ps)
    (h : aop τ o F M = some x) (hF : RelF X (envOf ρ M) F a.tmps.toList) (hR : Rep X ρ M w) : OpOk X o a w ρ M x := by
  unfold aop at h
  rw [ho] at h
  simp only at h
  split at h
  · rename_i ti hti
    have hA := hT t ti hti
    split at h
    · rename_i rt hel
      obtain ⟨hd, j, z, hj, hsz, hz, hzc, hby⟩ := elem_of hA hel
      split at h
      · rename_i xs hxs
        cases hb : (Nat.beq xs.length len && Nat.ble len 100) with
        | false => rw [hb] at h; cases h
        | true =>
          rw [hb] at h
          cases h
          rw [Bool.and_eq_true] at hb
          have hb1 := Nat.eq_of_beq_eq_true hb.1
          have hb2 := Nat.le_of_ble_eq_true hb.2
          subst hb1
          obtain ⟨hp1, hp2⟩ := map_parts hF ps
          have hsp := rt.sz_pos
          have hs15 : rt.sz ≤ 15 := by cases rt <;> decide
          have hmul : xs.length * rt.sz ≤ 1500 := Nat.le_trans (Nat.mul_le_mul hb2 hs15) (by decide)
          by_cases h0 : xs.length = 0
          · have hnil : xs = [] := List.eq_nil_of_length_eq_zero h0
            subst hnil
            have hvs : (ps.map fun (i, x) => (i, a.eval x)).toList = [] := by
              have : (ps.toList.map fun p => (p.1, oe F p.2)) = [] := by
                cases hq : ps.toList.map fun p => (p.1, oe F p.2) with
                | nil => rfl
                | cons q r =>
                  rw [hq] at hxs
                  obtain ⟨i, v⟩ := q
                  simp only [elemsOf] at hxs
                  cases hbb : Nat.beq i 0 with
                  | false => rw [hbb] at hxs; cases hxs
                  | true =>
                    rw [hbb] at hxs
                    simp only [cond_true] at hxs
                    split at hxs
                    · split at hxs
                      · split at hxs
                        · cases hxs
                        · cases hxs
                      · cases hxs
                    · cases hxs
              have hl := congrArg List.length this
              apply List.eq_nil_of_length_eq_zero
              simpa using hl
            have hps : ps = #[] := by
              apply Array.ext'
              have hl := congrArg List.length hvs
              simp only [Array.length_toList, Array.size_map, List.length_nil] at hl
              exact List.eq_nil_of_length_eq_zero (by simpa using hl)
            have hrun : (Instr.buildSlice t 0 (ps.map fun (i, x) => (i, a.eval x))).run X.P w = .ok (.slice (some ⟨w.heap.size, 0, none⟩) 0 0) (w.alloc (.cells #[] (X.eid rt))) := by
              rw [hps]
              simp [Instr.buildSlice, run_underlying hd, run_sizeOf (show (X.P.info? (X.eid rt)).map (·.size) = some rt.sz by rw [hj]; simp [hsz]), Instr.fill, newRow]
              congr 2
              apply Array.ext'
              simp
            refine row_ok (xs := []) (u := .slice (some ⟨w.heap.size, 0, none⟩) 0 0) (w' := w.alloc (.cells #[] (X.eid rt))) hR ?_ (fun k hk => alloc_old w _ k hk) (by simp) rfl rfl rfl (fun E => .inl ⟨rfl, _, rfl⟩) (fun g hg => by simp [blkOf] at hg)
            simp only [execOp, ho, Sem.run_bind, List.length_nil]
            rw [hrun]; simp
          · have hvl : ((Array.range (xs.length * j.size)).map (z.cells[· % z.cells.size]!)).toList.length = xs.length * rt.sz := by simp [hsz]
            obtain ⟨res, h1, h2⟩ := elems_fill (X := X) (E := envOf ρ M) (t := rt) (done := []) (xs := xs) (rest := ((Array.range (xs.length * j.size)).map (z.cells[· % z.cells.size]!)).toList) (cells := (Array.range (xs.length * j.size)).map (z.cells[· % z.cells.size]!)) hp2 hp1 hxs (by simp [vals]) hvl
            simp only [List.nil_append] at h2
            have hrun := run_buildSlice (P := X.P) w t (X.eid rt) xs.length (ps.map fun (i, x) => (i, a.eval x)) res j z hd hj hz (by rw [hsz]; omega) (by rw [hsz]; exact Nat.ne_of_gt (Nat.mul_pos (by omega) hsp)) (by rw [hsz]; rw [hsz] at h1; exact h1)
            have hrs : res.size = xs.length * rt.sz := by have := congrArg List.length h2; simpa [vals_length] using this
            refine row_ok (xs := xs) (u := .slice (some ⟨w.heap.size, 0, none⟩) xs.length xs.length) (w' := w.alloc (.cells res (X.eid rt))) hR ?_ (fun k hk => alloc_old w _ k hk) (by simp) rfl rfl rfl
              (fun E => repB_new (heap_alloc_new w _) (Nat.le_refl _) (by unfold maxLen; omega) hrs (by rw [← hrs, List.take_of_length_le (by simp), h2])) (fun g hg => by
                cases hx : xs.length with
                | zero => exact absurd hx h0
                | succ n => rw [hx] at hg; simp [blkOf] at hg; omega)
            simp only [execOp, ho, Sem.run_bind]
            rw [hrun]; simp
      · cases h
    · cases h
  · cases h
end Lw
/- Builtins; all abstract operations but calls, together. -/
set_option linter.unusedVariables false
set_option linter.unusedSimpArgs false
namespace Lw
open Go

/-! ### 1. What slices hold -/
theorem srcOf_rel {X : Cx} {ρ : Nat → Value} {M : Mem} {w : World} {t : RTy} {x : AV} {ys : List t.T} {v : Value} (hR : Rep X ρ M w) (h : srcOf M t x = some ys) (hv : RelA X (envOf ρ M) x v) :
    ∃ ad c, v = .slice ad ys.length c ∧ (ys ≠ [] → ∃ g o, ad = some ⟨g, o, none⟩ ∧ ∀ j u, (vals t ys)[j]? = some u → w.cell? ⟨g, o + j, none⟩ = some u) := by
  unfold srcOf at h
  split at h
  · cases h
    obtain ⟨ad, rfl⟩ := (hv : ∃ a, v = .slice a 0 0)
    exact ⟨ad, 0, rfl, fun hn => absurd rfl hn⟩
  · rename_i b
    split at h
    · rename_i u xs hb
      obtain ⟨rfl, hc⟩ := cast_eq h
      simp only at hc
      subst hc
      simp only [RelA, RelV1, RelC, env_at_row hb] at hv
      obtain ⟨rfl, _⟩ := hv
      rcases hR.blk b _ (of_at hb (by simp)) with ⟨rfl, ad, hu⟩ | ⟨g, cap, cur, hu, hc, hg, h1, h2, h3, h4⟩
      · exact ⟨ad, 0, hu, fun hn => absurd rfl hn⟩
      · refine ⟨_, _, hu, fun _ => ⟨g, 0, rfl, fun j u' hj => ?_⟩⟩
        rw [← h4, List.getElem?_take] at hj
        split at hj
        · rw [Nat.zero_add]; exact cell_at hg hj
        · cases hj
    · cases h
  · rename_i b lo len
    split at h
    · rename_i u xs hb
      cases hc : u.cast t xs with
      | none => rw [hc] at h; cases h
      | some zs =>
        rw [hc] at h
        simp only [Option.map_some, Option.some.injEq] at h
        obtain ⟨rfl, hc'⟩ := cast_eq hc
        simp only at hc'
        subst hc'
        simp only [RelA, RelV1, RelC, env_at_row hb] at hv
        obtain ⟨aa, cap', a', hua, hyv, hle, ha0, ha1⟩ := hv
        have hyl : ys.length = len := by rw [← h]; simp; omega
        refine ⟨a', _, by rw [hyl]; exact hyv, fun hn => ?_⟩
        have hpos : 0 < len := by
          rcases Nat.eq_zero_or_pos len with hz | hz
          · exact absurd (List.eq_nil_of_length_eq_zero (by omega)) hn
          · exact hz
        rcases hR.blk b _ (of_at hb (by simp)) with ⟨rfl, ad, hu⟩ | ⟨g, cap, cur, hu, hc, hg, h1, h2, h3, h4⟩
        · simp at hle; omega
        · rw [hu] at hua
          have hg' : some (⟨g, 0, none⟩ : Addr) = aa := by injection hua
          subst hg'
          refine ⟨g, lo * u.sz, ha1 hpos, fun j u' hj => ?_⟩
          have hval : (vals u xs)[lo * u.sz + j]? = some u' := by
            rw [← h, ← vals_take, ← vals_drop, List.getElem?_take] at hj
            split at hj
            · rwa [List.getElem?_drop] at hj
            · cases hj
          rw [← h4, List.getElem?_take] at hval
          split at hval
          · exact cell_at hg hval
          · cases hval
    · cases h
  · rename_i u xs
    obtain ⟨rfl, hc⟩ := cast_eq h
    simp only at hc
    subst hc
    obtain ⟨ad, c, hyv, _, hcells⟩ := (hv : ∃ a c, v = .slice a xs.length c ∧ _)
    refine ⟨ad, c, hyv, fun hn => ?_⟩
    obtain ⟨x0, r0, hx0⟩ : ∃ x r, xs = x :: r := by
      cases xs with
      | nil => exact absurd rfl hn
      | cons x r => exact ⟨x, r, rfl⟩
    obtain ⟨g, o, rfl, _⟩ := hcells 0 x0 (by rw [hx0]; rfl)
    refine ⟨g, o, rfl, fun j u' hj => ?_⟩
    have hlt : j < xs.length * u.sz := by rw [← vals_length]; exact (List.getElem?_eq_some_iff.1 hj).1
    have hsp := u.sz_pos
    have hi : j / u.sz < xs.length := (Nat.div_lt_iff_lt_mul hsp).2 hlt
    have hx := getD_of hi u.zero
    obtain ⟨g', o', he, hcs⟩ := hcells _ _ hx
    have he' : g = g' ∧ o = o' := by injection he with he; injection he with h1 h2; exact ⟨h1, h2⟩
    obtain ⟨rfl, rfl⟩ := he'
    have hmod := Nat.mod_lt j hsp
    have hjj : j / u.sz * u.sz + j % u.sz = j := by rw [Nat.mul_comm]; exact Nat.div_add_mod j u.sz
    have hel : ((u.enc (xs.getD (j / u.sz) u.zero)).map PC.val)[j % u.sz]? = some u' := by
      rw [← vals_elem u xs _ _ hx, List.getElem?_take, if_pos hmod, List.getElem?_drop, hjj]; exact hj
    simp only [List.getElem?_map, Option.map_eq_some_iff] at hel
    obtain ⟨p, hp, rfl⟩ := hel
    have := hcs _ p hp
    rw [hjj] at this
    have hb := World.block_lt_of_cell? _ _ this
    rw [World.cell?_of_block (w := X.W0) (hR.ro g hb)]; exact this
  · cases h

theorem live_env {ρ : Nat → Value} {M : Mem} {b : Nat} (h : live M b = true) (he : envOf ρ M b = .dead) : False := by
  unfold live at h
  unfold envOf at he
  cases hb : M[b]? with
  | none => rw [hb] at he; cases he
  | some x =>
    rw [hb] at he
    rw [at_of hb] at h
    cases x <;> simp [Blk.shape] at he h
theorem lenOf_rel {X : Cx} {ρ : Nat → Value} {M : Mem} {w : World} {x : AV} {n : Nat} {v : Value} (hR : Rep X ρ M w) (h : lenOf M x = some n) (hv : RelA X (envOf ρ M) x v) :
    ∃ ad c, v = .slice ad n c := by
  unfold lenOf at h
  split at h
  · cases h
    obtain ⟨ad, rfl⟩ := (hv : ∃ a, v = .slice a 0 0)
    exact ⟨ad, 0, rfl⟩
  · rename_i b
    split at h
    · rename_i u xs hb
      cases h
      simp only [RelA, RelV1, RelC, env_at_row hb] at hv
      obtain ⟨rfl, _⟩ := hv
      rcases hR.blk b _ (of_at hb (by simp)) with ⟨rfl, ad, hu⟩ | ⟨g, cap, cur, hu, _⟩
      · exact ⟨ad, 0, hu⟩
      · exact ⟨_, _, hu⟩
    · rename_i u m hb
      cases h
      simp only [RelA, RelV1, RelC, env_at_hidR hb] at hv
      obtain ⟨rfl, _⟩ := hv
      rcases hR.blk b _ (of_at hb (by simp)) with ⟨rfl, ad, hu⟩ | ⟨g, cap, hu, _⟩
      · exact ⟨ad, 0, hu⟩
      · exact ⟨_, _, hu⟩
    · cases h
  · rename_i b lo len
    cases hl : live M b with
    | false => rw [hl] at h; cases h
    | true =>
    rw [hl] at h
    cases h
    simp only [RelA, RelV1, RelC] at hv
    split at hv
    · exact hv.elim
    · rename_i he; exact (live_env hl he).elim
    · obtain ⟨aa, cap', a', hua, hyv, _⟩ := hv
      exact ⟨_, _, hyv⟩
    · exact hv.elim
  · rename_i u xs
    cases h
    obtain ⟨ad, c, hyv, _⟩ := (hv : ∃ a c, v = .slice a xs.length c ∧ _)
    exact ⟨ad, c, hyv⟩
  · cases h

theorem live_of {ρ : Nat → Value} {M : Mem} {b : Nat} (h : live M b = true) : ∃ s, envOf ρ M b = .ent (ρ b) s := by
  unfold live at h
  cases hb : M[b]? with
  | none => simp [Mem.at, List.getD, hb] at h
  | some x =>
    rw [at_of hb] at h
    unfold envOf
    rw [hb]
    cases x <;> first | (simp at h; done) | exact ⟨_, rfl⟩

theorem lenW_rel {X : Cx} {ρ : Nat → Value} {M : Mem} {w : World} {x : AV} {n : Nat} {v : Value} (hR : Rep X ρ M w) (h : lenW M x = some n) (hv : RelA X (envOf ρ M) x v) :
    ∃ ad c, v = .slice ad n c ∧ n ≤ c := by
  unfold lenW at h
  split at h
  · cases h
    obtain ⟨ad, rfl⟩ := (hv : ∃ a, v = .slice a 0 0)
    exact ⟨ad, 0, rfl, Nat.le_refl _⟩
  · rename_i b
    split at h
    · rename_i u xs hb
      cases h
      simp only [RelA, RelV1, RelC, env_at_row hb] at hv
      obtain ⟨rfl, _⟩ := hv
      rcases hR.blk b _ (of_at hb (by simp)) with ⟨rfl, ad, hu⟩ | ⟨g, cap, cur, hu, _, _, hle, _⟩
      · exact ⟨ad, 0, hu, Nat.le_refl _⟩
      · exact ⟨_, _, hu, hle⟩
    · cases h
  · rename_i u xs
    cases h
    obtain ⟨ad, c, hyv, hle, _⟩ := (hv : ∃ a c, v = .slice a xs.length c ∧ _)
    exact ⟨ad, c, hyv, hle⟩
  · cases h

/-! ### 2. Cuts -/
theorem run_bound {P : Program} (k : IntKind) (i : Int) (y : Nat) (code : BoundsCode) (w : World) (h0 : 0 ≤ i) (h1 : i ≤ y) : (Instr.sliceBound (.int k i) y code).run P w = .ok i.toNat w := by
  simp [Instr.sliceBound, asIntOf, h0, h1]
theorem optInt_rel {X : Cx} {E : Env} {F : List AV} {a : Act} (hF : RelF X E F a.tmps.toList) {lo : Option Operand} {l : Option Int} (h : optInt F lo = some l) :
    (lo = none ∧ l = none) ∨ ∃ x k n, lo = some x ∧ l = some n ∧ a.eval x = .int k n := by
  cases lo with
  | none => simp [optInt] at h; exact .inl ⟨rfl, h.symm⟩
  | some x =>
    simp only [optInt] at h
    split at h
    · rename_i n hn
      cases h
      obtain ⟨k, hk⟩ := intOf_rel hn (oe_rel hF x)
      exact .inr ⟨x, k, n, rfl, rfl, hk⟩
    · cases h
theorem run_bounds {X : Cx} {E : Env} {F : List AV} {a : Act} (hF : RelF X E F a.tmps.toList) {lo hi : Option Operand} {l h : Option Int} (hl : optInt F lo = some l) (hh : optInt F hi = some h) (len cap : Nat) (w : World)
    (h0 : 0 ≤ l.getD 0) (h1 : l.getD 0 ≤ h.getD len) (h2 : h.getD len ≤ cap) :
    (Instr.sliceBounds true len cap (lo.map a.eval) (hi.map a.eval) none).run X.P w = .ok ((l.getD 0).toNat, (h.getD len).toNat, cap) w := by
  rcases optInt_rel hF hl with ⟨rfl, rfl⟩ | ⟨x, k, n, rfl, rfl, hx⟩ <;> rcases optInt_rel hF hh with ⟨rfl, rfl⟩ | ⟨y, k', m, rfl, rfl, hy⟩
  · simp [Instr.sliceBounds]
  · simp only [Option.getD_none, Option.getD_some] at h0 h1 h2
    simp [Instr.sliceBounds, hy, run_bound k' m cap _ w (by omega) h2]
  · simp only [Option.getD_none, Option.getD_some] at h0 h1 h2
    simp [Instr.sliceBounds, hx, run_bound k n len _ w h0 h1]
  · simp only [Option.getD_some] at h0 h1 h2
    have e : (m.toNat : Int) = m := Int.toNat_of_nonneg (by omega)
    simp [Instr.sliceBounds, hx, hy, run_bound k' m cap _ w (by omega) h2, run_bound k n m.toNat _ w h0 (by omega)]
theorem run_slice_cut {P : Program} {t e : TypeId} {n : Nat} (hd : P.underlying t = some (.slice e)) (hs : (P.info? e).map (·.size) = some n) {lo hi : Option Value} {len cap l h : Nat} {w : World} (ad : Option Addr)
    (hb : (Instr.sliceBounds true len cap lo hi none).run P w = .ok (l, h, cap) w) :
    (Instr.sliceAt t (.slice ad len cap) lo hi none).run P w = .ok (.slice (if cap = l then ad else ad.map (·.add (l * n))) (h - l) (cap - l)) w := by
  simp only [Instr.sliceAt, Sem.run_bind, run_underlying hd, Result.andThen_ok, Instr.slice, hb, run_sizeOf hs, Sem.run_pure]
theorem execOp_slice {P : Program} {o : Oper} {t : TypeId} {x : Operand} {lo hi : Option Operand} (ho : o.op = .slice t x lo hi none) {ρ : Operand → Value} {w : World} {v : Value} (h : (Instr.sliceAt t (ρ x) (lo.map ρ) (hi.map ρ) none).run P w = .ok v w) : (execOp ρ o).run P w = .ok (.value v) w := by
  simp [execOp, ho, h]

theorem cut_rel {X : Cx} {ρ : Nat → Value} {M : Mem} {w : World} {b : Nat} {t : RTy} {xs : List t.T} (hR : Rep X ρ M w) (hb : M.at b = .row t xs) {ad : Option Addr} {cap l h : Nat} (hu : ρ b = .slice ad xs.length cap) (hlh : l ≤ h) (hh : h ≤ xs.length) :
    RelA X (envOf ρ M) (.one (.c (.sub b l (h - l)))) (.slice (if cap = l then ad else ad.map (·.add (l * t.sz))) (h - l) (cap - l)) := by
  show RelC X _ (.sub b l (h - l)) _
  simp only [RelC, env_at_row hb]
  refine ⟨ad, cap, _, hu, rfl, by omega, fun h0 => ?_, fun hp => ?_⟩
  · subst h0
    split
    · rfl
    · cases ad with
      | none => rfl
      | some x => simp [Addr.add]
  · rcases hR.blk b _ (of_at hb (by simp)) with ⟨rfl, ad', hu'⟩ | ⟨g, cap', cur, hu', hc, hg, h1, h2, h3, h4⟩
    · simp at hh; omega
    · rw [hu] at hu'
      have e1 : ad = some ⟨g, 0, none⟩ ∧ cap = cap' := by injection hu' with e1 e2 e3; exact ⟨e1, e3⟩
      obtain ⟨rfl, rfl⟩ := e1
      rw [if_neg (by omega)]
      simp [add_none]

theorem slice_sound {X : Cx} {τ : Tys} (hT : Agree X τ) {o : Oper} {F : List AV} {M : Mem} {a : Act} {w : World} {ρ : Nat → Value} {x : OR} {t : TypeId} {y : Operand} {lo hi mx : Option Operand} (ho : o.op = .slice t y lo hi mx)
    (h : aop τ o F M = some x) (hp : preOk x.pre) (hF : RelF X (envOf ρ M) F a.tmps.toList) (hR : Rep X ρ M w) : OpOk X o a w ρ M x := by
  unfold aop at h
  rw [ho] at h
  simp only at h
  have hy := oe_rel hF y
  split at h
  · split at h
    · rename_i ti l hh hti hl hhi
      have hA := hT t ti hti
      split at h
      · rename_i rt hel
        obtain ⟨hd, j, z, hj, hsz, _⟩ := elem_of hA hel
        have hs : (X.P.info? (X.eid rt)).map (·.size) = some rt.sz := by rw [hj]; simp [hsz]
        split at h
        · rename_i p v hsl
          cases h
          unfold aslice at hsl
          split at hsl
          · rename_i b hoe
            rw [hoe] at hy
            split at hsl
            · rename_i u xs hb
              cases hu : u.same rt with
              | false => rw [hu] at hsl; cases hsl
              | true =>
                rw [hu] at hsl
                cases hsl
                have := same_eq hu; subst this
                obtain ⟨⟨p0, p1⟩, p2⟩ := (hp : (0 ≤ l.getD 0 ∧ l.getD 0 ≤ hh.getD xs.length) ∧ hh.getD xs.length ≤ xs.length)
                simp only [RelA, RelV1, RelC, env_at_row hb] at hy
                obtain ⟨hyv, _⟩ := hy
                have hform : ∃ ad cap, ρ b = .slice ad xs.length cap ∧ xs.length ≤ cap := by
                  rcases hR.blk b _ (of_at hb (by simp)) with ⟨rfl, ad, hu'⟩ | ⟨g, cap, cur, hu', hc, hg, h1, _⟩
                  · exact ⟨ad, 0, hu', Nat.le_refl _⟩
                  · exact ⟨_, cap, hu', h1⟩
                obtain ⟨ad, cap, hub, hcap⟩ := hform
                have hbd := run_bounds hF hl hhi xs.length cap w p0 p1 (by omega)
                refine OpOk.pure hR (execOp_slice ho ?_) (cut_rel hR hb hub (l := (l.getD 0).toNat) (h := (hh.getD xs.length).toNat) (by omega) (by omega))
                rw [hyv, hub]
                exact run_slice_cut hd hs ad hbd
            · cases hsl
          · rename_i b len hoe
            rw [hoe] at hy
            split at hsl
            · rename_i u xs hb
              cases hu : u.same rt with
              | false => rw [hu] at hsl; cases hsl
              | true =>
                rw [hu] at hsl
                cases hsl
                have := same_eq hu; subst this
                obtain ⟨⟨p0, p1⟩, p2⟩ := (hp : (0 ≤ l.getD 0 ∧ l.getD 0 ≤ hh.getD len) ∧ hh.getD len ≤ xs.length)
                simp only [RelA, RelV1, RelC, env_at_row hb] at hy
                obtain ⟨aa, cap, a', hub, hyv, hle, ha0, ha1⟩ := hy
                have ha := ha0 trivial
                subst ha
                have hcap : xs.length ≤ cap := by
                  rcases hR.blk b _ (of_at hb (by simp)) with ⟨rfl, ad, hu'⟩ | ⟨g, cap', cur, hu', hc, hg, h1, _⟩
                  · simp
                  · rw [hub] at hu'
                    have : cap = cap' := by injection hu'
                    omega
                have hbd := run_bounds hF hl hhi len cap w p0 p1 (by omega)
                refine OpOk.pure hR (execOp_slice ho ?_) (cut_rel hR hb hub (l := (l.getD 0).toNat) (h := (hh.getD len).toNat) (by omega) (by omega))
                rw [hyv]
                exact run_slice_cut hd hs a' hbd
            · cases hsl
          · cases hsl
        · cases h
      · cases h
    · cases h
  · rename_i m
    split at h
    · rename_i ti n l hh m' hti hn hl hhi hm
      have hA := hT t ti hti
      split at h
      · rename_i rt hel
        cases h
        obtain ⟨hd, j, z, hj, hsz, _⟩ := elem_of hA hel
        have hs : (X.P.info? (X.eid rt)).map (·.size) = some rt.sz := by rw [hj]; simp [hsz]
        obtain ⟨⟨p0, p1⟩, p2, p3⟩ := (hp : (0 ≤ l.getD 0 ∧ l.getD 0 ≤ hh) ∧ (hh ≤ m' ∧ m' ≤ n))
        obtain ⟨ad, c, hyv, hcap⟩ := lenW_rel hR hn hy
        obtain ⟨km, hkm⟩ := intOf_rel hm (oe_rel hF m)
        rcases optInt_rel hF hhi with ⟨_, he⟩ | ⟨yh, k', m'', rfl, he, hyh⟩
        · cases he
        cases he
        have em : (m'.toNat : Int) = m' := Int.toNat_of_nonneg (by omega)
        have eh : (hh.toNat : Int) = hh := Int.toNat_of_nonneg (by omega)
        have hb : (Instr.sliceBounds true n c (lo.map a.eval) ((some yh).map a.eval) (some (a.eval m))).run X.P w = .ok ((l.getD 0).toNat, hh.toNat, m'.toNat) w := by
          rcases optInt_rel hF hl with ⟨rfl, rfl⟩ | ⟨x, k, n', rfl, rfl, hx⟩
          · simp [Instr.sliceBounds, hyh, hkm, run_bound km m' c _ w (by omega) (by omega), run_bound k' hh m'.toNat _ w (by omega) (by omega)]
          · simp only [Option.getD_some] at p0 p1
            simp [Instr.sliceBounds, hyh, hkm, hx, run_bound km m' c _ w (by omega) (by omega), run_bound k' hh m'.toNat _ w (by omega) (by omega), run_bound k n' hh.toNat _ w (by omega) (by omega)]
        have hrun : (Instr.sliceAt t (a.eval y) (lo.map a.eval) ((some yh).map a.eval) (some (a.eval m))).run X.P w = .ok (.slice (if m'.toNat = (l.getD 0).toNat then ad else ad.map (·.add ((l.getD 0).toNat * rt.sz))) (hh.toNat - (l.getD 0).toNat) (m'.toNat - (l.getD 0).toNat)) w := by
          rw [hyv]
          simp only [Instr.sliceAt, Sem.run_bind, run_underlying hd, Result.andThen_ok, Instr.slice, hb, run_sizeOf hs, Sem.run_pure]
        exact OpOk.pure hR (v := .slice (if m'.toNat = (l.getD 0).toNat then ad else ad.map (·.add ((l.getD 0).toNat * rt.sz))) (hh.toNat - (l.getD 0).toNat) (m'.toNat - (l.getD 0).toNat)) (by simp only [execOp, ho, Option.map_some] at hrun ⊢; simp only [Sem.run_bind, hrun, Result.andThen_ok, Sem.run_pure]) trivial
      · cases h
    · cases h
end Lw
