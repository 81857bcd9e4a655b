/- The words of the abstract machine: typed data of the program, abstract cells, values and blocks. Plain definitions; no program in sight. -/
import Derived.Laws.AppendOwn
import Derived.Laws.MakeOwn
import Derived.Laws.OwnMore
import Derived.WalkKit
set_option linter.unusedVariables false
namespace Lw
open Go

/-! ### 1. The program's data -/
structure Config where
  (cars floors fleets sessions door dwell hold renew yield queue quota load slack retry cap tries dead window : Int)
structure Door where (state at_ : Int)
structure Stops where (press up down : Int)
structure Call where (floor way : Int)
structure Wait where (floor way car since : Int)
structure Ask where (session fleet src dst mass : Int)
structure Lease where
  ask : Ask
  (car phase until_ renewed granted : Int)
structure Msg where (kind a b c : Int)
structure Event where
  session : Int
  msg : Msg
structure Car where
  door : Door
  (unit way timer just load : Int)
  (blocked broken : Bool)
  (mode target : Int)
  hold : Bool
  stops : Stops
structure Cmd where
  run : Int
  (open_ close : Bool)
structure GOp where
  (kind a b : Int)
  yes : Bool
structure COp where
  (kind a b : Int)
  ask : Ask
  msg : Msg
structure LOp where
  kind : Int
  lease : Lease

/-! ### 2. Plain cells and the types of rows -/
inductive PC where
  | int (k : IntKind) (n : Int)
  | bool (b : Bool)
  | str (s : ByteArray)

def PC.val : PC → Value
  | .int k n => .int k n
  | .bool b => .bool b
  | .str s => .string s

@[inline] def i64 (n : Int) : PC := .int .i64 n

def Config.enc (c : Config) : List PC :=
  [.int .i64 c.cars, .int .i64 c.floors, .int .i64 c.fleets, .int .i64 c.sessions, .int .i64 c.door, .int .i64 c.dwell, .int .i64 c.hold, .int .i64 c.renew, .int .i64 c.yield, .int .i64 c.queue, .int .i64 c.quota, .int .i64 c.load, .int .i64 c.slack, .int .i64 c.retry, .int .i64 c.cap, .int .i64 c.tries, .int .i64 c.dead, .int .i64 c.window]
def Door.enc (d : Door) : List PC := [.int .i64 d.state, .int .i64 d.at_]
def Stops.enc (s : Stops) : List PC := [.int .u64 s.press, .int .u64 s.up, .int .u64 s.down]
def Call.enc (c : Call) : List PC := [.int .i64 c.floor, .int .i64 c.way]
def Wait.enc (x : Wait) : List PC := [.int .i64 x.floor, .int .i64 x.way, .int .i64 x.car, .int .i64 x.since]
def Ask.enc (x : Ask) : List PC := [.int .i64 x.session, .int .i64 x.fleet, .int .i64 x.src, .int .i64 x.dst, .int .i64 x.mass]
def Lease.enc (x : Lease) : List PC :=
  [.int .i64 x.ask.session, .int .i64 x.ask.fleet, .int .i64 x.ask.src, .int .i64 x.ask.dst, .int .i64 x.ask.mass, .int .i64 x.car, .int .i64 x.phase, .int .i64 x.until_, .int .i64 x.renewed, .int .i64 x.granted]
def Msg.enc (x : Msg) : List PC := [.int .i64 x.kind, .int .i64 x.a, .int .i64 x.b, .int .i64 x.c]
def Event.enc (x : Event) : List PC := [.int .i64 x.session, .int .i64 x.msg.kind, .int .i64 x.msg.a, .int .i64 x.msg.b, .int .i64 x.msg.c]
def Car.enc (x : Car) : List PC :=
  [.int .i64 x.door.state, .int .i64 x.door.at_, .int .i64 x.unit, .int .i64 x.way, .int .i64 x.timer, .int .i64 x.just, .int .i64 x.load, .bool x.blocked, .bool x.broken, .int .i64 x.mode, .int .i64 x.target, .bool x.hold, .int .u64 x.stops.press, .int .u64 x.stops.up, .int .u64 x.stops.down]
def Cmd.enc (x : Cmd) : List PC := [.int .i64 x.run, .bool x.open_, .bool x.close]
def GOp.enc (x : GOp) : List PC := [.int .i64 x.kind, .int .i64 x.a, .int .i64 x.b, .bool x.yes]
def COp.enc (x : COp) : List PC :=
  [.int .i64 x.kind, .int .i64 x.a, .int .i64 x.b, .int .i64 x.ask.session, .int .i64 x.ask.fleet, .int .i64 x.ask.src, .int .i64 x.ask.dst, .int .i64 x.ask.mass, .int .i64 x.msg.kind, .int .i64 x.msg.a, .int .i64 x.msg.b, .int .i64 x.msg.c]
def LOp.enc (x : LOp) : List PC :=
  [.int .i64 x.kind, .int .i64 x.lease.ask.session, .int .i64 x.lease.ask.fleet, .int .i64 x.lease.ask.src, .int .i64 x.lease.ask.dst, .int .i64 x.lease.ask.mass, .int .i64 x.lease.car, .int .i64 x.lease.phase, .int .i64 x.lease.until_, .int .i64 x.lease.renewed, .int .i64 x.lease.granted]

inductive RTy where
  | int | bool | u8 | u64 | str | car | wait | ask | lease | msg | event | call | cmd | gop | cop | lop
  deriving DecidableEq

@[reducible] def RTy.T : RTy → Type
  | .int => Int | .bool => Bool | .u8 => Int | .u64 => Int | .str => ByteArray
  | .car => Car | .wait => Wait | .ask => Ask | .lease => Lease | .msg => Msg | .event => Event | .call => Call | .cmd => Cmd
  | .gop => GOp | .cop => COp | .lop => LOp

def RTy.sz : RTy → Nat
  | .int => 1 | .bool => 1 | .u8 => 1 | .u64 => 1 | .str => 1
  | .car => 15 | .wait => 4 | .ask => 5 | .lease => 10 | .msg => 4 | .event => 5 | .call => 2 | .cmd => 3
  | .gop => 4 | .cop => 12 | .lop => 11

def RTy.enc : (t : RTy) → t.T → List PC
  | .int, n => [.int .i64 n] | .bool, b => [.bool b] | .u8, n => [.int .u8 n] | .u64, n => [.int .u64 n] | .str, s => [.str s]
  | .car, x => x.enc | .wait, x => x.enc | .ask, x => x.enc | .lease, x => x.enc | .msg, x => x.enc | .event, x => x.enc | .call, x => x.enc | .cmd, x => x.enc
  | .gop, x => x.enc | .cop, x => x.enc | .lop, x => x.enc

def RTy.zero : (t : RTy) → t.T
  | .int => (0 : Int) | .bool => false | .u8 => (0 : Int) | .u64 => (0 : Int) | .str => ByteArray.empty
  | .car => ⟨⟨0, 0⟩, 0, 0, 0, 0, 0, false, false, 0, 0, false, ⟨0, 0, 0⟩⟩
  | .wait => ⟨0, 0, 0, 0⟩ | .ask => ⟨0, 0, 0, 0, 0⟩ | .lease => ⟨⟨0, 0, 0, 0, 0⟩, 0, 0, 0, 0, 0⟩ | .msg => ⟨0, 0, 0, 0⟩ | .event => ⟨0, ⟨0, 0, 0, 0⟩⟩ | .call => ⟨0, 0⟩ | .cmd => ⟨0, false, false⟩
  | .gop => ⟨0, 0, 0, false⟩ | .cop => ⟨0, 0, 0, ⟨0, 0, 0, 0, 0⟩, ⟨0, 0, 0, 0⟩⟩ | .lop => ⟨0, ⟨⟨0, 0, 0, 0, 0⟩, 0, 0, 0, 0, 0⟩⟩

/-- Put one cell of a car, of a wait .. -/
def Car.put (x : Car) : Nat → PC → Option Car
  | 0, .int .i64 n => some { x with door := { x.door with state := n } }
  | 1, .int .i64 n => some { x with door := { x.door with at_ := n } }
  | 2, .int .i64 n => some { x with unit := n }
  | 3, .int .i64 n => some { x with way := n }
  | 4, .int .i64 n => some { x with timer := n }
  | 5, .int .i64 n => some { x with just := n }
  | 6, .int .i64 n => some { x with load := n }
  | 7, .bool b => some { x with blocked := b }
  | 8, .bool b => some { x with broken := b }
  | 9, .int .i64 n => some { x with mode := n }
  | 10, .int .i64 n => some { x with target := n }
  | 11, .bool b => some { x with hold := b }
  | 12, .int .u64 n => some { x with stops := { x.stops with press := n } }
  | 13, .int .u64 n => some { x with stops := { x.stops with up := n } }
  | 14, .int .u64 n => some { x with stops := { x.stops with down := n } }
  | _, _ => none
def Wait.put (x : Wait) : Nat → PC → Option Wait
  | 0, .int .i64 n => some { x with floor := n }
  | 1, .int .i64 n => some { x with way := n }
  | 2, .int .i64 n => some { x with car := n }
  | 3, .int .i64 n => some { x with since := n }
  | _, _ => none
def Ask.put (x : Ask) : Nat → PC → Option Ask
  | 0, .int .i64 n => some { x with session := n }
  | 1, .int .i64 n => some { x with fleet := n }
  | 2, .int .i64 n => some { x with src := n }
  | 3, .int .i64 n => some { x with dst := n }
  | 4, .int .i64 n => some { x with mass := n }
  | _, _ => none
def Lease.put (x : Lease) : Nat → PC → Option Lease
  | 0, .int .i64 n => some { x with ask := { x.ask with session := n } }
  | 1, .int .i64 n => some { x with ask := { x.ask with fleet := n } }
  | 2, .int .i64 n => some { x with ask := { x.ask with src := n } }
  | 3, .int .i64 n => some { x with ask := { x.ask with dst := n } }
  | 4, .int .i64 n => some { x with ask := { x.ask with mass := n } }
  | 5, .int .i64 n => some { x with car := n }
  | 6, .int .i64 n => some { x with phase := n }
  | 7, .int .i64 n => some { x with until_ := n }
  | 8, .int .i64 n => some { x with renewed := n }
  | 9, .int .i64 n => some { x with granted := n }
  | _, _ => none
def Msg.put (x : Msg) : Nat → PC → Option Msg
  | 0, .int .i64 n => some { x with kind := n }
  | 1, .int .i64 n => some { x with a := n }
  | 2, .int .i64 n => some { x with b := n }
  | 3, .int .i64 n => some { x with c := n }
  | _, _ => none
def Event.put (x : Event) : Nat → PC → Option Event
  | 0, .int .i64 n => some { x with session := n }
  | 1, .int .i64 n => some { x with msg := { x.msg with kind := n } }
  | 2, .int .i64 n => some { x with msg := { x.msg with a := n } }
  | 3, .int .i64 n => some { x with msg := { x.msg with b := n } }
  | 4, .int .i64 n => some { x with msg := { x.msg with c := n } }
  | _, _ => none
def Call.put (x : Call) : Nat → PC → Option Call
  | 0, .int .i64 n => some { x with floor := n }
  | 1, .int .i64 n => some { x with way := n }
  | _, _ => none
def RTy.put : (t : RTy) → t.T → Nat → PC → Option t.T
  | .int, _, 0, .int .i64 n => some n
  | .bool, _, 0, .bool b => some b
  | .u8, _, 0, .int .u8 n => some n
  | .u64, _, 0, .int .u64 n => some n
  | .str, _, 0, .str s => some s
  | .car, x, i, c => x.put i c
  | .wait, x, i, c => x.put i c
  | .ask, x, i, c => x.put i c
  | .lease, x, i, c => x.put i c
  | .msg, x, i, c => x.put i c
  | .event, x, i, c => x.put i c
  | .call, x, i, c => x.put i c
  | _, _, _, _ => none

theorem RTy.enc_length (t : RTy) (x : t.T) : (t.enc x).length = t.sz := by cases t <;> rfl
theorem RTy.sz_pos (t : RTy) : 0 < t.sz := by cases t <;> decide

theorem Car.put_enc {x y : Car} {i : Nat} {c : PC} (h : x.put i c = some y) : y.enc = x.enc.set i c ∧ i < 15 := by
  unfold Car.put at h
  split at h <;> first | (cases h; exact ⟨rfl, by omega⟩) | cases h
theorem Wait.put_enc {x y : Wait} {i : Nat} {c : PC} (h : x.put i c = some y) : y.enc = x.enc.set i c ∧ i < 4 := by
  unfold Wait.put at h
  split at h <;> first | (cases h; exact ⟨rfl, by omega⟩) | cases h
theorem Ask.put_enc {x y : Ask} {i : Nat} {c : PC} (h : x.put i c = some y) : y.enc = x.enc.set i c ∧ i < 5 := by
  unfold Ask.put at h
  split at h <;> first | (cases h; exact ⟨rfl, by omega⟩) | cases h
theorem Lease.put_enc {x y : Lease} {i : Nat} {c : PC} (h : x.put i c = some y) : y.enc = x.enc.set i c ∧ i < 10 := by
  unfold Lease.put at h
  split at h <;> first | (cases h; exact ⟨rfl, by omega⟩) | cases h
theorem Msg.put_enc {x y : Msg} {i : Nat} {c : PC} (h : x.put i c = some y) : y.enc = x.enc.set i c ∧ i < 4 := by
  unfold Msg.put at h
  split at h <;> first | (cases h; exact ⟨rfl, by omega⟩) | cases h
theorem Event.put_enc {x y : Event} {i : Nat} {c : PC} (h : x.put i c = some y) : y.enc = x.enc.set i c ∧ i < 5 := by
  unfold Event.put at h
  split at h <;> first | (cases h; exact ⟨rfl, by omega⟩) | cases h
theorem Call.put_enc {x y : Call} {i : Nat} {c : PC} (h : x.put i c = some y) : y.enc = x.enc.set i c ∧ i < 2 := by
  unfold Call.put at h
  split at h <;> first | (cases h; exact ⟨rfl, by omega⟩) | cases h
theorem RTy.put_enc {t : RTy} {x y : t.T} {i : Nat} {c : PC} (h : t.put x i c = some y) : t.enc y = (t.enc x).set i c ∧ i < t.sz := by
  unfold RTy.put at h
  split at h <;> first | (cases h; exact ⟨rfl, by decide⟩) | exact Car.put_enc h | exact Wait.put_enc h | exact Ask.put_enc h | exact Lease.put_enc h | exact Msg.put_enc h | exact Event.put_enc h | exact Call.put_enc h | cases h

/-- Put several cells, one behind the other. -/
def RTy.puts (t : RTy) : t.T → Nat → List PC → Option t.T
  | x, _, [] => some x
  | x, i, c :: cs => match t.put x i c with
    | some y => t.puts y (i + 1) cs
    | none => none

/-! ### 3. Cells, values, blocks -/
inductive Cell where
  | pl (c : PC)
  | nilp
  | ptr (b i off : Nat)          -- into block b: element i, cell off of it
  | es                           -- a slice without elements and without room
  | row (b : Nat)                -- the whole of row b
  | sub (b lo len : Nat)         -- a part of row b
  | ros (t : RTy) (xs : List t.T) -- a slice that came in, and that nobody writes
  | junk

inductive V1 where
  | c (x : Cell)
  | agg (xs : List Cell)

inductive AV where
  | one (x : V1)
  | tup (xs : List V1)
  | fn (f : FuncId) (first caps : List V1)
  | rop (cells : List Cell)      -- an address in what came in: the cells from there on
  | undef
  | junk

inductive Blk where
  | cells (vs : List Cell)
  | row (t : RTy) (xs : List t.T)
  | hidC (n : Nat)               -- there, but not to be looked into
  | hidR (t : RTy) (n : Nat)
  | dead

abbrev Mem := List Blk

inductive Shape where
  | cells (n : Nat)
  | row (t : RTy) (n : Nat)

def Blk.shape : Blk → Option Shape
  | .cells vs => some (.cells vs.length)
  | .row t xs => some (.row t xs.length)
  | .hidC n => some (.cells n)
  | .hidR t n => some (.row t n)
  | .dead => none

def Blk.hide : Blk → Blk
  | .cells vs => .hidC vs.length
  | .row t xs => .hidR t xs.length
  | b => b

theorem Blk.shape_hide (b : Blk) : b.hide.shape = b.shape := by cases b <;> rfl

def Mem.at (M : Mem) (b : Nat) : Blk := M.getD b .dead

/-! ### 4. Renaming of blocks -/
def Cell.map (σ : Nat → Nat) : Cell → Cell
  | .ptr b i off => .ptr (σ b) i off
  | .row b => .row (σ b)
  | .sub b lo len => .sub (σ b) lo len
  | c => c
def V1.map (σ : Nat → Nat) : V1 → V1
  | .c x => .c (x.map σ)
  | .agg xs => .agg (xs.map (Cell.map σ))
def AV.map (σ : Nat → Nat) : AV → AV
  | .one x => .one (x.map σ)
  | .tup xs => .tup (xs.map (V1.map σ))
  | .fn f a b => .fn f (a.map (V1.map σ)) (b.map (V1.map σ))
  | .rop cs => .rop (cs.map (Cell.map σ))
  | v => v
def Blk.map (σ : Nat → Nat) : Blk → Blk
  | .cells vs => .cells (vs.map (Cell.map σ))
  | b => b

theorem Blk.shape_map (σ : Nat → Nat) (b : Blk) : (b.map σ).shape = b.shape := by cases b <;> simp [Blk.map, Blk.shape]
end Lw
