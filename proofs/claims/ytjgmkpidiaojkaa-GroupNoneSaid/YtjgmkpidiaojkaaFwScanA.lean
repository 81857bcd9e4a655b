/- What the functions of this group answer, and the tables of summaries. -/
import Derived.Test.YtjgmkpidiaojkaaFwPlantLA
set_option linter.unusedVariables false
namespace Go.Proofs.Ytjgmkpidiaojkaa
open Lw
def otherI (w : Int) : Int := if w = 1 then 2 else if w = 2 then 1 else 0
def firstI (p q : Bool) (a b : Int) : Int := if p = true then a else if q = true then b else 0
def stillI (s : Lw.Stops) (f j : Int) : Int × Bool := if anyB s f = true ∧ (f ≠ j ∨ firstI (aheadB s f 1) (aheadB s f 2) 1 2 = 0) then (firstI (hallB s f 1) (hallB s f 2) 1 2, true) else (firstI (aheadB s f 1) (aheadB s f 2) 1 2, false)
def servI (s : Lw.Stops) (f w : Int) : Int × Bool := if hallB s f w = true ∨ (aheadB s f w = true ∧ hasB s.press f = true) then (w, true) else if aheadB s f w = true then (0, false) else if hallB s f (otherI w) = true then (otherI w, true) else (w, true)
def goneI (s : Lw.Stops) (f w : Int) : Int := firstI (aheadB s f w) (aheadB s f (otherI w)) w (otherI w)
def nextI (s : Lw.Stops) (f w j : Int) : Int × Bool :=
  if w = 0 then stillI s f j
  else if anyB s f = true ∧ (f ≠ j ∨ goneI s f w = 0) then (if f = j ∧ hallB s f (otherI w) = true then (otherI w, true) else if (servI s f w).2 = true then ((servI s f w).1, true) else (goneI s f w, false))
  else (goneI s f w, false)
def hallPS : Summ := fun xs M => match xs, M with
  | [.one (.agg [.pl (.int .u64 p), .pl (.int .u64 u), .pl (.int .u64 d), .pl (.int .i64 f)]), .one (.c (.pl (.int .i64 w)))], [] => ansP (stopsR ⟨p, u, d⟩) (vb (hallB ⟨p, u, d⟩ f w))
  | _, _ => none
def aheadPS : Summ := fun xs M => match xs, M with
  | [.one (.agg [.pl (.int .u64 p), .pl (.int .u64 u), .pl (.int .u64 d), .pl (.int .i64 f)]), .one (.c (.pl (.int .i64 w)))], [] => ansP (stopsR ⟨p, u, d⟩) (vb (aheadB ⟨p, u, d⟩ f w))
  | _, _ => none
def pressedPS : Summ := fun xs M => match xs, M with
  | [.one (.agg [.pl (.int .u64 p), .pl (.int .u64 u), .pl (.int .u64 d), .pl (.int .i64 f)])], [] => ansP (u64R p ∧ (0 ≤ f ∧ f < 64)) (vb (hasB p f))
  | _, _ => none
def firstS : Summ := fun xs M => match xs, M with
  | [.fn k [.agg [.pl (.int .u64 p), .pl (.int .u64 u), .pl (.int .u64 d), .pl (.int .i64 f)]] [], .one (.c (.row 0))], [.row .int [a, b]] => bif Nat.beq k 82 then ansP (stopsR ⟨p, u, d⟩) (vi (firstI (aheadB ⟨p, u, d⟩ f a) (aheadB ⟨p, u, d⟩ f b) a b)) else bif Nat.beq k 85 then ansP (stopsR ⟨p, u, d⟩) (vi (firstI (hallB ⟨p, u, d⟩ f a) (hallB ⟨p, u, d⟩ f b) a b)) else none
  | _, _ => none
def stillPS : Summ := fun xs M => match xs, M with
  | [.one (.agg [.pl (.int .u64 p), .pl (.int .u64 u), .pl (.int .u64 d), .pl (.int .i64 f)]), .one (.c (.pl (.int .i64 j)))], [] => ansP (stopsR ⟨p, u, d⟩) (.tup [ci (stillI ⟨p, u, d⟩ f j).1, cb (stillI ⟨p, u, d⟩ f j).2])
  | _, _ => none
def servePS : Summ := fun xs M => match xs, M with
  | [.one (.agg [.pl (.int .u64 p), .pl (.int .u64 u), .pl (.int .u64 d), .pl (.int .i64 f)]), .one (.c (.pl (.int .i64 w)))], [] => ansP (stopsR ⟨p, u, d⟩ ∧ (0 ≤ f ∧ f < 64)) (.tup [ci (servI ⟨p, u, d⟩ f w).1, cb (servI ⟨p, u, d⟩ f w).2])
  | _, _ => none
def s83 : Summ := fun xs M => match xs, M with
  | [.one (.c (.pl (.int .i64 w)))], [] => ans (vi (otherI w))
  | _, _ => none
def tb35 : List (FuncId × Summ) := (83, s83) :: tb34
def tb36 : List (FuncId × Summ) := (85, hallPS) :: tb35
def tb37 : List (FuncId × Summ) := (82, aheadPS) :: tb36
def tb38 : List (FuncId × Summ) := (89, pressedPS) :: tb37
def tb39 : List (FuncId × Summ) := (81, firstS) :: tb38
def tb40 : List (FuncId × Summ) := (80, stillPS) :: tb39
def tb41 : List (FuncId × Summ) := (86, servePS) :: tb40
def s75 : Summ := fun xs M => match xs, M with
  | [.one (.agg css), .one (.c (.pl (.int .i64 f))), .one (.c (.pl (.int .i64 w))), .one (.c (.pl (.int .i64 j)))], [] => (Lw.Stops.of css).bind fun s => ansP ((stopsR s ∧ (0 ≤ f ∧ f < 64))) (.tup [ci (nextI s f w j).1, cb (nextI s f w j).2])
  | _, _ => none
def tb42 : List (FuncId × Summ) := (75, s75) :: tb41
end Go.Proofs.Ytjgmkpidiaojkaa
