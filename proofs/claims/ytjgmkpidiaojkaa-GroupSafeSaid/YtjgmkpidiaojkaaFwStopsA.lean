/- What the functions of this group answer, and the tables of summaries. -/
import Derived.Test.YtjgmkpidiaojkaaFwEtaMA
set_option linter.unusedVariables false
namespace Go.Proofs.Ytjgmkpidiaojkaa
open Lw
def pressS (s : Lw.Stops) (f : Int) : Lw.Stops := ⟨bitsI .or .u64 s.press (bitI f), s.up, s.down⟩
def hallS (s : Lw.Stops) (f w : Int) : Lw.Stops := if w = 1 then ⟨s.press, bitsI .or .u64 s.up (bitI f), s.down⟩ else if w = 2 then ⟨s.press, s.up, bitsI .or .u64 s.down (bitI f)⟩ else s
def clearS (s : Lw.Stops) (f w : Int) : Lw.Stops := ⟨bitsI .andNot .u64 s.press (bitI f), if w = 1 then bitsI .andNot .u64 s.up (bitI f) else s.up, if w = 2 then bitsI .andNot .u64 s.down (bitI f) else s.down⟩
def hallB (s : Lw.Stops) (f w : Int) : Bool := (decide (w = 1) && hasB s.up f) || (decide (w = 2) && hasB s.down f)
def anyB (s : Lw.Stops) (f : Int) : Bool := hasB s.press f || (hasB s.up f || hasB s.down f)
def thatB (n f w : Int) : Bool := (decide (w = 1) && decide (n > f)) || (decide (w = 2) && decide (n < f))
def aheadN (s : Lw.Stops) (f w : Int) : Nat → Bool
  | 0 => false
  | n + 1 => aheadN s f w n || (anyB s n && thatB n f w)
def aheadB (s : Lw.Stops) (f w : Int) : Bool := aheadN s f w 64
def rowS : Summ := fun xs M => match xs, M with
  | [.one (.c (.ptr 0 0 0)), .one (.c (.pl (.int .i64 w)))], [.cells [.pl (.int .u64 p), .pl (.int .u64 u), .pl (.int .u64 d)]] => some (.br (w == 1) (.leaf ⟨none, .one (.c (.ptr 0 0 1)), none, []⟩) (.br (w == 2) (.leaf ⟨none, .one (.c (.ptr 0 0 2)), none, []⟩) (.leaf ⟨none, .one (.c .nilp), none, []⟩)))
  | _, _ => none
def s57 : Summ := fun xs M => match xs, M with
  | [.one (.c (.pl (.int .i64 f)))], [] => ans (vk .u64 (bitI f))
  | _, _ => none
def tb25 : List (FuncId × Summ) := (57, s57) :: tb24
def tb26 : List (FuncId × Summ) := (61, rowS) :: tb25
def s88 : Summ := fun xs M => match xs, M with
  | [.one (.agg css)], [] => (Lw.Stops.of css).bind fun s => ans (vk .u64 (bitsI .or .u64 (bitsI .or .u64 s.press s.up) s.down))
  | _, _ => none
def tb27 : List (FuncId × Summ) := (88, s88) :: tb26
def s39 : Summ := fun xs M => match xs, M with
  | [.one (.agg css), .one (.c (.pl (.int .i64 f)))], [] => (Lw.Stops.of css).bind fun s => ans (vs (pressS s f).enc)
  | _, _ => none
def tb28 : List (FuncId × Summ) := (39, s39) :: tb27
def s49 : Summ := fun xs M => match xs, M with
  | [.one (.agg css), .one (.c (.pl (.int .i64 f))), .one (.c (.pl (.int .i64 w)))], [] => (Lw.Stops.of css).bind fun s => ans (vs (hallS s f w).enc)
  | _, _ => none
def tb29 : List (FuncId × Summ) := (49, s49) :: tb28
def s77 : Summ := fun xs M => match xs, M with
  | [.one (.agg css), .one (.c (.pl (.int .i64 f))), .one (.c (.pl (.int .i64 w)))], [] => (Lw.Stops.of css).bind fun s => ans (vs (clearS s f w).enc)
  | _, _ => none
def tb30 : List (FuncId × Summ) := (77, s77) :: tb29
def s76 : Summ := fun xs M => match xs, M with
  | [.one (.agg css), .one (.c (.pl (.int .i64 f))), .one (.c (.pl (.int .i64 w)))], [] => (Lw.Stops.of css).bind fun s => ansP (stopsR s) (vb (hallB s f w))
  | _, _ => none
def tb31 : List (FuncId × Summ) := (76, s76) :: tb30
def s84 : Summ := fun xs M => match xs, M with
  | [.one (.agg css), .one (.c (.pl (.int .i64 f)))], [] => (Lw.Stops.of css).bind fun s => ansP (stopsR s) (vb (anyB s f))
  | _, _ => none
def tb32 : List (FuncId × Summ) := (84, s84) :: tb31
def s13 : Summ := fun xs M => match xs, M with
  | [.one (.agg css), .one (.c (.pl (.int .i64 f))), .one (.c (.pl (.int .i64 w)))], [] => (Lw.Stops.of css).bind fun s => ansP (stopsR s) (vb (hallB s f w))
  | _, _ => none
def tb33 : List (FuncId × Summ) := (13, s13) :: tb32
def s87 : Summ := fun xs M => match xs, M with
  | [.one (.agg css), .one (.c (.pl (.int .i64 f))), .one (.c (.pl (.int .i64 w)))], [] => (Lw.Stops.of css).bind fun s => ansP (stopsR s) (vb (aheadB s f w))
  | _, _ => none
def tb34 : List (FuncId × Summ) := (87, s87) :: tb33
end Go.Proofs.Ytjgmkpidiaojkaa
