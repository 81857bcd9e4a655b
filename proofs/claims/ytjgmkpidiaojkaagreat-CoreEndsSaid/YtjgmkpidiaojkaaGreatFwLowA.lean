/- What the functions of this group answer, and the tables of summaries. -/
import Derived.Test.YtjgmkpidiaojkaaGreatFwTys
import Derived.Test.YtjgmkpidiaojkaaGreatFw28
set_option linter.unusedVariables false
namespace Go.Proofs.YtjgmkpidiaojkaaGreat
open Lw
theorem holdM {Γ : Gam} (hΓ : GamOk Tryz.prog eid Γ) {f : FuncId} {fn : Func} {S : Summ} (hf : Tryz.prog.funcs[f]? = some fn) (hname : (fn.name != "runtime.NumGoroutine") = true) {ps : List (List Nat)} (h : MeetsAt Γ tys (markF ps fn) S) (hb : noScopeB fn = true) : Holds Tryz.prog eid f S :=
  holds_of tys_ok hΓ (drawOk tys_ok hΓ (by kernel_rfl)) hf hname h hb
theorem hold {Γ : Gam} (hΓ : GamOk Tryz.prog eid Γ) {f : FuncId} {fn : Func} {S : Summ} (hf : Tryz.prog.funcs[f]? = some fn) (hname : (fn.name != "runtime.NumGoroutine") = true) (h : MeetsAt Γ tys fn S) (hb : noScopeB fn = true) : Holds Tryz.prog eid f S :=
  holdM (ps := []) hΓ hf hname (by rw [markF_nil]; exact h) hb
def tb0 : List (FuncId × Summ) := []
def cC (k : List PC) : List Cell := k.map .pl
def floorsI (n : Int) : Int := clampI 2 64 n
def spanI (n : Int) : Int := clampI 1 1000 n
def renewI (n : Int) : Int := clampI 0 1000 n
def massI (a : Int) : Int := clampI 0 10000 a
def overB (a b : Int) : Bool := decide (massI a > massI b)
def nearB (a b c : Int) : Bool := decide (massI a - massI b ≤ massI c ∧ massI b - massI a ≤ massI c)
def tripI (c : Config) : Int := 4 * (floorsI c.floors - 1) + 3 * spanI c.door + 4
def leaseI (c : Config) : Int := 2 * tripI c + spanI c.hold * (2 + renewI c.renew)
def serveI (c : Config) : Int := 5 * (4 * (floorsI c.floors - 1) + floorsI c.floors * (2 * spanI c.door + spanI c.dwell + 4))
def timeI (n : Int) : Int := clampI 0 1099511627776 n
def addT (a b : Int) : Int := timeI (timeI a + timeI b)
def lateB (a b : Int) : Bool := decide (timeI a ≥ timeI b)
def levelB (u : Int) : Bool := decide (0 ≤ u) && (decide (u ≤ 252) && (u % 4 == 0))
def levelF (u : Int) : Int := bif levelB u then u / 4 else 0
def moveI (u w f : Int) : Int := if w = 1 ∧ u < 4 * (floorsI f - 1) then u + 1 else if w = 2 ∧ u > 0 then u - 1 else u
def r64 (u : Int) : Prop := -9223372036854775808 ≤ u ∧ u ≤ 9223372036854775807
def at4 (f : Int) : Int := IntKind.i64.wrap (4 * f)
def towardI (u f : Int) : Int := if at4 f > u then 1 else if at4 f < u then 2 else 0
def farP (u f : Int) : Int := mm true (IntKind.i64.wrap (at4 f - u)) (IntKind.i64.wrap (u - at4 f))
def s89 : Summ := fun xs M => match xs, M with
  | [.one (.c (.pl (.int .i64 a)))], [] => ans (vi (floorsI a))
  | _, _ => none
def tb1 : List (FuncId × Summ) := (89, s89) :: tb0
def s155 : Summ := fun xs M => match xs, M with
  | [.one (.c (.pl (.int .i64 a)))], [] => ans (vi (floorsI a))
  | _, _ => none
def tb2 : List (FuncId × Summ) := (155, s155) :: tb1
def s91 : Summ := fun xs M => match xs, M with
  | [.one (.c (.pl (.int .i64 a)))], [] => ans (vi (massI a))
  | _, _ => none
def tb3 : List (FuncId × Summ) := (91, s91) :: tb2
def s158 : Summ := fun xs M => match xs, M with
  | [.one (.c (.pl (.int .i64 a)))], [] => ans (vi (massI a))
  | _, _ => none
def tb4 : List (FuncId × Summ) := (158, s158) :: tb3
def s194 : Summ := fun xs M => match xs, M with
  | [.one (.c (.pl (.int .i64 a))), .one (.c (.pl (.int .i64 b)))], [] => ans (vb (overB a b))
  | _, _ => none
def tb5 : List (FuncId × Summ) := (194, s194) :: tb4
def s161 : Summ := fun xs M => match xs, M with
  | [.one (.c (.pl (.int .i64 a))), .one (.c (.pl (.int .i64 b))), .one (.c (.pl (.int .i64 c)))], [] => ans (vb (nearB a b c))
  | _, _ => none
def tb6 : List (FuncId × Summ) := (161, s161) :: tb5
def s90 : Summ := fun xs M => match xs, M with
  | [.one (.c (.pl (.int .i64 a))), .one (.c (.pl (.int .i64 b))), .one (.c (.pl (.int .i64 c)))], [] => ans (vi (clampI b c a))
  | _, _ => none
def tb7 : List (FuncId × Summ) := (90, s90) :: tb6
def s92 : Summ := fun xs M => match xs, M with
  | [.one (.c (.pl (.int .i64 a)))], [] => ans (vi (spanI a))
  | _, _ => none
def tb8 : List (FuncId × Summ) := (92, s92) :: tb7
def s117 : Summ := fun xs M => match xs, M with
  | [.one (.c (.pl (.int .i64 a)))], [] => ans (vi (spanI a))
  | _, _ => none
def tb9 : List (FuncId × Summ) := (117, s117) :: tb8
def s220 : Summ := fun xs M => match xs, M with
  | [.one (.c (.pl (.int .i64 a)))], [] => ans (vi (spanI a))
  | _, _ => none
def tb10 : List (FuncId × Summ) := (220, s220) :: tb9
def s215 : Summ := fun xs M => match xs, M with
  | [.one (.c (.pl (.int .i64 a)))], [] => ans (vi (spanI a))
  | _, _ => none
def tb11 : List (FuncId × Summ) := (215, s215) :: tb10
def s100 : Summ := fun xs M => match xs, M with
  | [.one (.agg csc)], [] => (Lw.Config.of csc).bind fun c => ans (vi (renewI c.renew))
  | _, _ => none
def tb12 : List (FuncId × Summ) := (100, s100) :: tb11
def s162 : Summ := fun xs M => match xs, M with
  | [.one (.agg csc)], [] => (Lw.Config.of csc).bind fun c => ans (vi (renewI c.renew))
  | _, _ => none
def tb13 : List (FuncId × Summ) := (162, s162) :: tb12
def s34 : Summ := fun xs M => match xs, M with
  | [.one (.agg csc)], [] => (Lw.Config.of csc).bind fun c => ans (vi (tripI c))
  | _, _ => none
def tb14 : List (FuncId × Summ) := (34, s34) :: tb13
def s124 : Summ := fun xs M => match xs, M with
  | [.one (.agg csc)], [] => (Lw.Config.of csc).bind fun c => ans (vi (tripI c))
  | _, _ => none
def tb15 : List (FuncId × Summ) := (124, s124) :: tb14
def s46 : Summ := fun xs M => match xs, M with
  | [.one (.agg csc)], [] => (Lw.Config.of csc).bind fun c => ans (vi (leaseI c))
  | _, _ => none
def tb16 : List (FuncId × Summ) := (46, s46) :: tb15
def s130 : Summ := fun xs M => match xs, M with
  | [.one (.c (.pl (.int .i64 a)))], [] => ans (vi (timeI a))
  | _, _ => none
def tb17 : List (FuncId × Summ) := (130, s130) :: tb16
def s66 : Summ := fun xs M => match xs, M with
  | [.one (.c (.pl (.int .i64 a))), .one (.c (.pl (.int .i64 b)))], [] => ans (vi (addT a b))
  | _, _ => none
def tb18 : List (FuncId × Summ) := (66, s66) :: tb17
def s113 : Summ := fun xs M => match xs, M with
  | [.one (.c (.pl (.int .i64 a))), .one (.c (.pl (.int .i64 b)))], [] => ans (vb (lateB a b))
  | _, _ => none
def tb19 : List (FuncId × Summ) := (113, s113) :: tb18
def s209 : Summ := fun xs M => match xs, M with
  | [.one (.c (.pl (.int .i64 a)))], [] => ans (vi (4 * (floorsI a - 1)))
  | _, _ => none
def tb20 : List (FuncId × Summ) := (209, s209) :: tb19
def s148 : Summ := fun xs M => match xs, M with
  | [.one (.c (.pl (.int .i64 a)))], [] => ans (.tup [ci (levelF a), cb (levelB a)])
  | _, _ => none
def tb21 : List (FuncId × Summ) := (148, s148) :: tb20
def s200 : Summ := fun xs M => match xs, M with
  | [.one (.c (.pl (.int .i64 u))), .one (.c (.pl (.int .i64 w))), .one (.c (.pl (.int .i64 f)))], [] => ansP (r64 u) (vi (moveI u w f))
  | _, _ => none
def tb22 : List (FuncId × Summ) := (200, s200) :: tb21
def s192 : Summ := fun xs M => match xs, M with
  | [.one (.c (.pl (.int .i64 u))), .one (.c (.pl (.int .i64 f)))], [] => ans (vi (towardI u f))
  | _, _ => none
def tb23 : List (FuncId × Summ) := (192, s192) :: tb22
def s183 : Summ := fun xs M => match xs, M with
  | [.one (.c (.pl (.int .i64 u))), .one (.c (.pl (.int .i64 f)))], [] => ans (vi (farP u f))
  | _, _ => none
def tb24 : List (FuncId × Summ) := (183, s183) :: tb23
def goodD (d : Lw.Door) (t : Int) : Bool := decide ((d.state = 0 ∧ d.at_ = 0) ∨ (d.state = 2 ∧ d.at_ = spanI t) ∨ ((d.state = 1 ∨ d.state = 3) ∧ 0 ≤ d.at_ ∧ d.at_ ≤ spanI t))
def openD (d : Lw.Door) : Lw.Door := ⟨if d.state = 0 ∨ d.state = 3 then 1 else d.state, d.at_⟩
def closeD (d : Lw.Door) : Lw.Door := ⟨if d.state = 1 ∨ d.state = 2 then 3 else d.state, d.at_⟩
def tickD (d : Lw.Door) (t : Int) (b : Bool) : Lw.Door :=
  if d.state = 3 ∧ b = true then ⟨1, d.at_⟩
  else if d.state = 3 ∧ d.at_ ≤ 1 then ⟨0, 0⟩
  else if d.state = 3 then ⟨3, d.at_ - 1⟩
  else if d.state = 1 ∧ d.at_ + 1 ≥ spanI t then ⟨2, spanI t⟩
  else if d.state = 1 then ⟨1, d.at_ + 1⟩
  else d
def mildD (d : Lw.Door) : Prop := -4611686018427387904 ≤ d.at_ ∧ d.at_ ≤ 4611686018427387904
def s197 : Summ := fun xs M => match xs, M with
  | [.one (.agg csd)], [] => (Lw.Door.of csd).bind fun d => ans (vs (openD d).enc)
  | _, _ => none
def tb25 : List (FuncId × Summ) := (197, s197) :: tb24
def s198 : Summ := fun xs M => match xs, M with
  | [.one (.agg csd)], [] => (Lw.Door.of csd).bind fun d => ans (vs (closeD d).enc)
  | _, _ => none
def tb26 : List (FuncId × Summ) := (198, s198) :: tb25
def s199 : Summ := fun xs M => match xs, M with
  | [.one (.agg csd), .one (.c (.pl (.int .i64 t))), .one (.c (.pl (.bool b)))], [] => (Lw.Door.of csd).bind fun d => ansP (mildD d) (vs (tickD d t b).enc)
  | _, _ => none
def tb27 : List (FuncId × Summ) := (199, s199) :: tb26
def car0 : Lw.Car := ⟨⟨0, 0⟩, 0, 0, 0, -1, 0, false, false, 0, 0, false, ⟨0, 0, 0⟩⟩
def safeB (x : Lw.Car) : Bool := decide (x.door.state = 0 ∨ levelB x.unit = true)
def goodC (c : Config) (x : Lw.Car) : Bool := decide (goodD x.door c.door = true ∧ 0 ≤ x.unit ∧ x.unit ≤ 4 * (floorsI c.floors - 1) ∧ 0 ≤ x.way ∧ x.way ≤ 2 ∧ (x.door.state = 0 ∨ levelB x.unit = true))
def toldD (x : Lw.Car) (m : Lw.Cmd) : Lw.Door := if x.broken = true then x.door else if m.open_ = true ∧ levelB x.unit = true then openD x.door else if m.close = true then closeD x.door else x.door
def stepC (c : Config) (x : Lw.Car) (m : Lw.Cmd) : Lw.Car :=
  if x.broken = false ∧ x.door.state = 0 ∧ (tickD (toldD x m) c.door x.blocked).state = 0 ∧ (m.run = 1 ∨ m.run = 2) then ⟨tickD (toldD x m) c.door x.blocked, moveI x.unit m.run c.floors, m.run, x.timer, x.just, x.load, x.blocked, x.broken, x.mode, x.target, x.hold, x.stops⟩
  else ⟨tickD (toldD x m) c.door x.blocked, x.unit, x.way, x.timer, x.just, x.load, x.blocked, x.broken, x.mode, x.target, x.hold, x.stops⟩
def mildC (x : Lw.Car) : Prop := mildD x.door ∧ r64 x.unit
def s65 : Summ := fun xs M => match xs, M with
  | [], [] => ans (vs car0.enc)
  | _, _ => none
def tb28 : List (FuncId × Summ) := (65, s65) :: tb27
def s196 : Summ := fun xs M => match xs, M with
  | [.one (.agg csx)], [] => (Lw.Car.of csx).bind fun x => ans (vb (levelB x.unit))
  | _, _ => none
def tb29 : List (FuncId × Summ) := (196, s196) :: tb28
def s135 : Summ := fun xs M => match xs, M with
  | [.one (.agg csc), .one (.agg csx), .one (.agg csm)], [] => (Lw.Config.of csc).bind fun c => (Lw.Car.of csx).bind fun x => (Lw.Cmd.of csm).bind fun m => ansP (mildC x) (vs (stepC c x m).enc)
  | _, _ => none
def tb30 : List (FuncId × Summ) := (135, s135) :: tb29
def u64R (a : Int) : Prop := 0 ≤ a ∧ a ≤ 18446744073709551615
def stopsR (s : Lw.Stops) : Prop := u64R s.press ∧ u64R s.up ∧ u64R s.down
def onesI (s : Lw.Stops) : Int := cntI s.press + cntI s.up + cntI s.down
def farR (u f : Int) : Int := bif decide (IntKind.i64.wrap (u - at4 f) < 0) then IntKind.i64.wrap (0 - IntKind.i64.wrap (u - at4 f)) else IntKind.i64.wrap (u - at4 f)
def hasB (b f : Int) : Bool := decide (0 ≤ f ∧ f < 64 ∧ b.toNat / 2 ^ f.toNat % 2 = 1)
def onwayB (x : Lw.Car) (k : Lw.Call) : Bool := decide (x.way = 0) || (decide (x.way = k.way) && (towardI x.unit k.floor == 0 || towardI x.unit k.floor == k.way))
def wayB (x : Lw.Car) (k : Lw.Call) : Bool := decide (x.way = 0 ∨ (x.way = k.way ∧ ((k.way = 1 ∧ at4 k.floor ≥ x.unit) ∨ (k.way = 2 ∧ at4 k.floor ≤ x.unit))))
def baseI (far : Int) (c : Config) (x : Lw.Car) : Int := IntKind.i64.wrap (far + IntKind.i64.wrap (onesI x.stops * IntKind.i64.wrap (IntKind.i64.wrap (2 * spanI c.door) + spanI c.dwell)))
def turnI (c : Config) : Int := IntKind.i64.wrap (8 * IntKind.i64.wrap (floorsI c.floors - 1))
def costP (c : Config) (x : Lw.Car) (k : Lw.Call) : Int := bif onwayB x k then baseI (farP x.unit k.floor) c x else IntKind.i64.wrap (baseI (farP x.unit k.floor) c x + turnI c)
def costR (c : Config) (x : Lw.Car) (k : Lw.Call) : Int := bif wayB x k then baseI (farR x.unit k.floor) c x else IntKind.i64.wrap (baseI (farR x.unit k.floor) c x + turnI c)
def insideB (x : Lw.Car) (k : Lw.Call) : Bool := decide (x.unit ≥ 0) && (decide (x.unit ≤ 252) && (decide (k.floor ≥ 0) && (decide (k.floor ≤ 63) && (decide (x.way ≥ 0) && (decide (x.way ≤ 2) && (decide (k.way ≥ 1) && decide (k.way ≤ 2)))))))
def s221 : Summ := fun xs M => match xs, M with
  | [.one (.c (.pl (.int .u64 a)))], [] => ansP (u64R a) (vi (cntI a))
  | _, _ => none
def tb31 : List (FuncId × Summ) := (221, s221) :: tb30
def s208 : Summ := fun xs M => match xs, M with
  | [.one (.agg css)], [] => (Lw.Stops.of css).bind fun s => ansP (stopsR s) (vi (onesI s))
  | _, _ => none
def tb32 : List (FuncId × Summ) := (208, s208) :: tb31
def s216 : Summ := fun xs M => match xs, M with
  | [.one (.agg csx), .one (.agg csk)], [] => (Lw.Car.of csx).bind fun x => (Lw.Call.of csk).bind fun k => ans (vb (onwayB x k))
  | _, _ => none
def tb33 : List (FuncId × Summ) := (216, s216) :: tb32
def s190 : Summ := fun xs M => match xs, M with
  | [.one (.agg csc), .one (.agg csx), .one (.agg csk)], [] => (Lw.Config.of csc).bind fun c => (Lw.Car.of csx).bind fun x => (Lw.Call.of csk).bind fun k => ansP (stopsR x.stops) (vi (costP c x k))
  | _, _ => none
def tb34 : List (FuncId × Summ) := (190, s190) :: tb33
def bitI (f : Int) : Int := if 0 ≤ f ∧ f ≤ 63 then ((2 ^ f.toNat : Nat) : Int) else 0
def pressS (s : Lw.Stops) (f : Int) : Lw.Stops := ⟨bitsI .or .u64 s.press (bitI f), s.up, s.down⟩
def hallS (s : Lw.Stops) (f w : Int) : Lw.Stops := if w = 1 then ⟨s.press, bitsI .or .u64 s.up (bitI f), s.down⟩ else if w = 2 then ⟨s.press, s.up, bitsI .or .u64 s.down (bitI f)⟩ else s
def clearS (s : Lw.Stops) (f w : Int) : Lw.Stops := ⟨bitsI .andNot .u64 s.press (bitI f), if w = 1 then bitsI .andNot .u64 s.up (bitI f) else s.up, if w = 2 then bitsI .andNot .u64 s.down (bitI f) else s.down⟩
def hallB (s : Lw.Stops) (f w : Int) : Bool := (decide (w = 1) && hasB s.up f) || (decide (w = 2) && hasB s.down f)
def anyB (s : Lw.Stops) (f : Int) : Bool := hasB s.press f || (hasB s.up f || hasB s.down f)
def thatB (n f w : Int) : Bool := (decide (w = 1) && decide (n > f)) || (decide (w = 2) && decide (n < f))
def aheadN (s : Lw.Stops) (f w : Int) : Nat → Bool
  | 0 => false
  | n + 1 => aheadN s f w n || (anyB s n && thatB n f w)
def aheadB (s : Lw.Stops) (f w : Int) : Bool := aheadN s f w 64
def rowS : Summ := fun xs M => match xs, M with
  | [.one (.c (.ptr 0 0 0)), .one (.c (.pl (.int .i64 w)))], [.cells [.pl (.int .u64 p), .pl (.int .u64 u), .pl (.int .u64 d)]] => some (.br (w == 1) (.leaf ⟨none, .one (.c (.ptr 0 0 1)), none, []⟩) (.br (w == 2) (.leaf ⟨none, .one (.c (.ptr 0 0 2)), none, []⟩) (.leaf ⟨none, .one (.c .nilp), none, []⟩)))
  | _, _ => none
def s173 : Summ := fun xs M => match xs, M with
  | [.one (.c (.pl (.int .i64 f)))], [] => ans (vk .u64 (bitI f))
  | _, _ => none
def tb35 : List (FuncId × Summ) := (173, s173) :: tb34
def tb36 : List (FuncId × Summ) := (191, rowS) :: tb35
def s230 : Summ := fun xs M => match xs, M with
  | [.one (.agg css)], [] => (Lw.Stops.of css).bind fun s => ans (vk .u64 (bitsI .or .u64 (bitsI .or .u64 s.press s.up) s.down))
  | _, _ => none
def tb37 : List (FuncId × Summ) := (230, s230) :: tb36
def s105 : Summ := fun xs M => match xs, M with
  | [.one (.agg css), .one (.c (.pl (.int .i64 f)))], [] => (Lw.Stops.of css).bind fun s => ans (vs (pressS s f).enc)
  | _, _ => none
def tb38 : List (FuncId × Summ) := (105, s105) :: tb37
def s132 : Summ := fun xs M => match xs, M with
  | [.one (.agg css), .one (.c (.pl (.int .i64 f))), .one (.c (.pl (.int .i64 w)))], [] => (Lw.Stops.of css).bind fun s => ans (vs (hallS s f w).enc)
  | _, _ => none
def tb39 : List (FuncId × Summ) := (132, s132) :: tb38
def s219 : Summ := fun xs M => match xs, M with
  | [.one (.agg css), .one (.c (.pl (.int .i64 f))), .one (.c (.pl (.int .i64 w)))], [] => (Lw.Stops.of css).bind fun s => ans (vs (clearS s f w).enc)
  | _, _ => none
def tb40 : List (FuncId × Summ) := (219, s219) :: tb39
def s218 : Summ := fun xs M => match xs, M with
  | [.one (.agg css), .one (.c (.pl (.int .i64 f))), .one (.c (.pl (.int .i64 w)))], [] => (Lw.Stops.of css).bind fun s => ansP (stopsR s) (vb (hallB s f w))
  | _, _ => none
def tb41 : List (FuncId × Summ) := (218, s218) :: tb40
def s226 : Summ := fun xs M => match xs, M with
  | [.one (.agg css), .one (.c (.pl (.int .i64 f)))], [] => (Lw.Stops.of css).bind fun s => ansP (stopsR s) (vb (anyB s f))
  | _, _ => none
def tb42 : List (FuncId × Summ) := (226, s226) :: tb41
def s229 : Summ := fun xs M => match xs, M with
  | [.one (.agg css), .one (.c (.pl (.int .i64 f))), .one (.c (.pl (.int .i64 w)))], [] => (Lw.Stops.of css).bind fun s => ansP (stopsR s) (vb (aheadB s f w))
  | _, _ => none
def tb43 : List (FuncId × Summ) := (229, s229) :: tb42
def conf11 : Config := ⟨0, 5, 0, 0, 2, 0, 0, 0, 0, 0, 0, 0, 0, 0, 0, 0, 0, 0⟩
def otherI (w : Int) : Int := if w = 1 then 2 else if w = 2 then 1 else 0
def firstI (p q : Bool) (a b : Int) : Int := if p = true then a else if q = true then b else 0
def stillI (s : Lw.Stops) (f j : Int) : Int × Bool := if anyB s f = true ∧ (f ≠ j ∨ firstI (aheadB s f 1) (aheadB s f 2) 1 2 = 0) then (firstI (hallB s f 1) (hallB s f 2) 1 2, true) else (firstI (aheadB s f 1) (aheadB s f 2) 1 2, false)
def servI (s : Lw.Stops) (f w : Int) : Int × Bool := if hallB s f w = true ∨ (aheadB s f w = true ∧ hasB s.press f = true) then (w, true) else if aheadB s f w = true then (0, false) else if hallB s f (otherI w) = true then (otherI w, true) else (w, true)
def goneI (s : Lw.Stops) (f w : Int) : Int := firstI (aheadB s f w) (aheadB s f (otherI w)) w (otherI w)
def nextI (s : Lw.Stops) (f w j : Int) : Int × Bool :=
  if w = 0 then stillI s f j
  else if anyB s f = true ∧ (f ≠ j ∨ goneI s f w = 0) then (if f = j ∧ hallB s f (otherI w) = true then (otherI w, true) else if (servI s f w).2 = true then ((servI s f w).1, true) else (goneI s f w, false))
  else (goneI s f w, false)
def hallPS : Summ := fun xs M => match xs, M with
  | [.one (.agg [.pl (.int .u64 p), .pl (.int .u64 u), .pl (.int .u64 d), .pl (.int .i64 f)]), .one (.c (.pl (.int .i64 w)))], [] => ansP (stopsR ⟨p, u, d⟩) (vb (hallB ⟨p, u, d⟩ f w))
  | _, _ => none
def aheadPS : Summ := fun xs M => match xs, M with
  | [.one (.agg [.pl (.int .u64 p), .pl (.int .u64 u), .pl (.int .u64 d), .pl (.int .i64 f)]), .one (.c (.pl (.int .i64 w)))], [] => ansP (stopsR ⟨p, u, d⟩) (vb (aheadB ⟨p, u, d⟩ f w))
  | _, _ => none
def pressedPS : Summ := fun xs M => match xs, M with
  | [.one (.agg [.pl (.int .u64 p), .pl (.int .u64 u), .pl (.int .u64 d), .pl (.int .i64 f)])], [] => ansP (u64R p ∧ (0 ≤ f ∧ f < 64)) (vb (hasB p f))
  | _, _ => none
def firstS : Summ := fun xs M => match xs, M with
  | [.fn k [.agg [.pl (.int .u64 p), .pl (.int .u64 u), .pl (.int .u64 d), .pl (.int .i64 f)]] [], .one (.c (.row 0))], [.row .int [a, b]] => bif Nat.beq k 224 then ansP (stopsR ⟨p, u, d⟩) (vi (firstI (aheadB ⟨p, u, d⟩ f a) (aheadB ⟨p, u, d⟩ f b) a b)) else bif Nat.beq k 227 then ansP (stopsR ⟨p, u, d⟩) (vi (firstI (hallB ⟨p, u, d⟩ f a) (hallB ⟨p, u, d⟩ f b) a b)) else none
  | _, _ => none
def stillPS : Summ := fun xs M => match xs, M with
  | [.one (.agg [.pl (.int .u64 p), .pl (.int .u64 u), .pl (.int .u64 d), .pl (.int .i64 f)]), .one (.c (.pl (.int .i64 j)))], [] => ansP (stopsR ⟨p, u, d⟩) (.tup [ci (stillI ⟨p, u, d⟩ f j).1, cb (stillI ⟨p, u, d⟩ f j).2])
  | _, _ => none
def servePS : Summ := fun xs M => match xs, M with
  | [.one (.agg [.pl (.int .u64 p), .pl (.int .u64 u), .pl (.int .u64 d), .pl (.int .i64 f)]), .one (.c (.pl (.int .i64 w)))], [] => ansP (stopsR ⟨p, u, d⟩ ∧ (0 ≤ f ∧ f < 64)) (.tup [ci (servI ⟨p, u, d⟩ f w).1, cb (servI ⟨p, u, d⟩ f w).2])
  | _, _ => none
def s225 : Summ := fun xs M => match xs, M with
  | [.one (.c (.pl (.int .i64 w)))], [] => ans (vi (otherI w))
  | _, _ => none
def tb44 : List (FuncId × Summ) := (225, s225) :: tb43
def tb45 : List (FuncId × Summ) := (227, hallPS) :: tb44
def tb46 : List (FuncId × Summ) := (224, aheadPS) :: tb45
def tb47 : List (FuncId × Summ) := (231, pressedPS) :: tb46
def tb48 : List (FuncId × Summ) := (223, firstS) :: tb47
def tb49 : List (FuncId × Summ) := (222, stillPS) :: tb48
def tb50 : List (FuncId × Summ) := (228, servePS) :: tb49
def s217 : Summ := fun xs M => match xs, M with
  | [.one (.agg css), .one (.c (.pl (.int .i64 f))), .one (.c (.pl (.int .i64 w))), .one (.c (.pl (.int .i64 j)))], [] => (Lw.Stops.of css).bind fun s => ansP ((stopsR s ∧ (0 ≤ f ∧ f < 64))) (.tup [ci (nextI s f w j).1, cb (nextI s f w j).2])
  | _, _ => none
def tb51 : List (FuncId × Summ) := (217, s217) :: tb50
def goodFor (c : Config) (l : List Lw.Car) (k : Lw.Call) (b : Int) (x : Lw.Car) : Bool := decide (x.mode = 0 ∧ x.broken = false ∧ (b < 0 ∨ costP c x k < costP c (l.getD b.toNat (RTy.zero .car)) k))
def bestN (c : Config) (l : List Lw.Car) (k : Lw.Call) : Nat → Int
  | 0 => -1
  | n + 1 => bif goodFor c l k (bestN c l k n) (l.getD n (RTy.zero .car)) then (n : Int) else bestN c l k n
def bestI (c : Config) (l : List Lw.Car) (k : Lw.Call) : Int := bestN c l k l.length
def carsR (l : List Lw.Car) : Prop := l.length ≤ Go.maxLen ∧ ∀ x ∈ l, stopsR x.stops
def bestS : Summ := fun xs M => match xs, M with
  | [.one (.agg k0), .one (.c (.ros .car l)), .one (.agg k1)], [] => (Lw.Config.of k0).bind fun c => (Lw.Call.of k1).bind fun k => ansP (carsR l) (vi (bestI c l k))
  | [.one (.agg k0), .one (.c (.row 0)), .one (.agg k1)], [.row .car l] => (Lw.Config.of k0).bind fun c => (Lw.Call.of k1).bind fun k => ansP (carsR l) (vi (bestI c l k))
  | [.one (.agg k0), .one (.c .es), .one (.agg k1)], [] => (Lw.Config.of k0).bind fun c => (Lw.Call.of k1).bind fun k => ans (vi (-1))
  | _, _ => none
def tb52 : List (FuncId × Summ) := (131, bestS) :: tb51
structure Ctl where
  car : Lw.Car
  cmd : Lw.Cmd
  call : Lw.Call
  sv : Bool
def Ctl.cells (k : Ctl) : List Cell := (k.car.enc ++ (k.cmd.enc ++ (k.call.enc ++ [PC.bool k.sv]))).map .pl
def putC (x : Lw.Car) (way timer just : Int) (s : Lw.Stops) : Lw.Car := ⟨x.door, x.unit, way, timer, just, x.load, x.blocked, x.broken, x.mode, x.target, x.hold, s⟩
def openK (c : Config) (f q : Int) (k : Ctl) : Ctl := ⟨putC k.car q (spanI c.dwell) f (clearS k.car.stops f q), ⟨k.cmd.run, true, k.cmd.close⟩, ⟨f, q⟩, hallB k.car.stops f q⟩
def standK (k : Ctl) (q : Int) : Ctl := ⟨putC k.car q k.car.timer k.car.just k.car.stops, k.cmd, k.call, k.sv⟩
def goK (k : Ctl) (q : Int) : Ctl := ⟨putC k.car k.car.way k.car.timer (-1) k.car.stops, ⟨q, k.cmd.open_, k.cmd.close⟩, k.call, k.sv⟩
def standT (c : Config) (f : Int) (k : Ctl) : Ctl :=
  if (nextI k.car.stops f k.car.way k.car.just).2 = true then openK c f (nextI k.car.stops f k.car.way k.car.just).1 k
  else if (nextI k.car.stops f k.car.way k.car.just).1 = 0 then standK k (nextI k.car.stops f k.car.way k.car.just).1
  else goK k (nextI k.car.stops f k.car.way k.car.just).1
def timeK (k : Ctl) (t : Int) (cl : Bool) : Ctl := ⟨putC k.car k.car.way t k.car.just k.car.stops, ⟨k.cmd.run, k.cmd.open_, cl⟩, k.call, k.sv⟩
def cmdK (k : Ctl) (m : Lw.Cmd) : Ctl := ⟨k.car, m, k.call, k.sv⟩
def normalT (c : Config) (k : Ctl) : Ctl :=
  if k.car.door.state = 0 ∧ levelB k.car.unit = false then cmdK k ⟨k.car.way, k.cmd.open_, k.cmd.close⟩
  else if k.car.door.state = 0 then standT c (levelF k.car.unit) k
  else if k.car.door.state ≠ 2 then k
  else if k.car.blocked = true ∨ overB k.car.load c.load = true then timeK k (spanI c.dwell) k.cmd.close
  else timeK k (IntKind.i64.wrap (k.car.timer - 1)) (decide (IntKind.i64.wrap (k.car.timer - 1) ≤ 0))
def thereB (x : Lw.Car) : Bool := levelB x.unit && (levelF x.unit == x.target)
def leasedT (k : Ctl) : Ctl :=
  if k.car.door.state = 0 ∧ thereB k.car = true then cmdK k ⟨k.cmd.run, k.car.hold, k.cmd.close⟩
  else if k.car.door.state = 0 then ⟨putC k.car k.car.way k.car.timer (-1) k.car.stops, ⟨towardI k.car.unit k.car.target, k.cmd.open_, k.cmd.close⟩, k.call, k.sv⟩
  else if thereB k.car = true ∧ k.car.hold = true then cmdK k ⟨k.cmd.run, k.car.door.state == 3, k.cmd.close⟩
  else cmdK k ⟨k.cmd.run, k.cmd.open_, (k.car.door.state == 2) && !k.car.blocked⟩
def ctl0 (x : Lw.Car) : Ctl := ⟨x, ⟨0, false, false⟩, ⟨0, 0⟩, false⟩
def ctlT (c : Config) (x : Lw.Car) : Ctl := if x.broken = true then ctl0 x else if x.mode = 1 then leasedT (ctl0 x) else normalT c (ctl0 x)
def tickCar (c : Config) (x : Lw.Car) : Lw.Car := stepC c (ctlT c x).car (ctlT c x).cmd
def tickCall (c : Config) (x : Lw.Car) : Lw.Call := if (ctlT c x).sv = true then (ctlT c x).call else ⟨0, 0⟩
def tickSv (c : Config) (x : Lw.Car) : Bool := (ctlT c x).sv
def idleB (x : Lw.Car) : Bool := levelB x.unit && (decide (x.mode = 0) && (!x.broken && (decide (x.door.state = 0) && (decide (x.way = 0) && decide (onesI x.stops = 0)))))
def mayB (c : Config) (x : Lw.Car) : Bool := goodC c x && (decide (x.mode = 0 ∨ x.mode = 1) && ((levelB x.unit || decide (x.way ≠ 0)) && decide (x.mode ≠ 1 ∨ (0 ≤ x.target ∧ x.target < floorsI c.floors))))
def boolOf : List Cell → Option Bool
  | [.pl (.bool b)] => some b
  | _ => none
def ctlS (pre : Lw.Car → Prop) (g : Ctl → Ctl) (vs : List Cell) : Option (BT SR) :=
  (Lw.Car.of (vs.take 15)).bind fun x => (Lw.Cmd.of ((vs.drop 15).take 3)).bind fun m => (Lw.Call.of ((vs.drop 18).take 2)).bind fun k => (boolOf (vs.drop 20)).bind fun v => some (.leaf ⟨some (pre x), .tup [], some [.cells (g ⟨x, m, k, v⟩).cells], []⟩)
def standS : Summ := fun xs M => match xs, M with
  | [.one (.c (.ptr 0 0 0)), .one (.agg kc), .one (.c (.pl (.int .i64 f)))], [.cells vs] => (Lw.Config.of kc).bind fun c => ctlS (fun x => stopsR x.stops ∧ (0 ≤ f ∧ f < 64)) (standT c f) vs
  | _, _ => none
def normalS : Summ := fun xs M => match xs, M with
  | [.one (.c (.ptr 0 0 0)), .one (.agg kc)], [.cells vs] => (Lw.Config.of kc).bind fun c => ctlS (fun x => stopsR x.stops) (normalT c) vs
  | _, _ => none
def leasedS : Summ := fun xs M => match xs, M with
  | [.one (.c (.ptr 0 0 0))], [.cells vs] => ctlS (fun x => True) leasedT vs
  | _, _ => none
def s195 : Summ := fun xs M => match xs, M with
  | [.one (.agg csc)], [] => (Lw.Config.of csc).bind fun c => ans (vi (spanI c.dwell))
  | _, _ => none
def tb53 : List (FuncId × Summ) := (195, s195) :: tb52
def s146 : Summ := fun xs M => match xs, M with
  | [.one (.agg csx)], [] => (Lw.Car.of csx).bind fun x => ansP (stopsR x.stops) (vb (idleB x))
  | _, _ => none
def tb54 : List (FuncId × Summ) := (146, s146) :: tb53
def tb55 : List (FuncId × Summ) := (193, standS) :: tb54
def tb56 : List (FuncId × Summ) := (134, normalS) :: tb55
def tb57 : List (FuncId × Summ) := (133, leasedS) :: tb56
def s68 : Summ := fun xs M => match xs, M with
  | [.one (.agg csc), .one (.agg csx)], [] => (Lw.Config.of csc).bind fun c => (Lw.Car.of csx).bind fun x => ansP ((stopsR x.stops ∧ mildC x)) (.tup [cs (tickCar c x).enc, cs (tickCall c x).enc, cb (tickSv c x)])
  | _, _ => none
def tb58 : List (FuncId × Summ) := (68, s68) :: tb57
def conf14 : Config := ⟨0, 5, 0, 0, 2, 3, 0, 0, 0, 0, 0, 300, 0, 0, 0, 0, 0, 0⟩
def run14 : Nat → Lw.Car × Int
  | 0 => (⟨⟨0, 0⟩, 0, 0, 0, -1, 0, false, false, 0, 0, false, ⟨0, 2, 0⟩⟩, 0)
  | n + 1 => (tickCar conf14 (run14 n).1, if tickSv conf14 (run14 n).1 = true ∧ (tickCall conf14 (run14 n).1).floor = 1 ∧ (tickCall conf14 (run14 n).1).way = 1 then (run14 n).2 + 1 else (run14 n).2)
def told14 (x a : Lw.Car) : Lw.Car := ⟨x.door, x.unit, x.way, x.timer, x.just, a.load, a.blocked, a.broken, x.mode, x.target, x.hold, ⟨bitsI .or .u64 x.stops.press (bitsI .and .u64 a.stops.press 7), bitsI .or .u64 x.stops.up (bitsI .and .u64 a.stops.up 1), x.stops.down⟩⟩
end Go.Proofs.YtjgmkpidiaojkaaGreat
