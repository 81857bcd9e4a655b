/- What the functions of this group answer, and the tables of summaries. -/
import Derived.Test.YtjbdabpjepjohaaFwCarctlLA
set_option linter.unusedVariables false
namespace Go.Proofs.Ytjbdabpjepjohaa
open Lw
def ltW (w a b : Int) : Prop := (w = 1 ∧ a < b) ∨ (w = 2 ∧ b < a)
def behP (s : Lw.Stops) (f w : Int) : Prop := ∀ g, ltW w g f → hasB s.press g = false ∧ (hallB s g w = true → ∀ h, ltW w h g → anyB s h = false)
def oppP (s : Lw.Stops) (f w : Int) : Prop := (∀ g, ltW w g f → hallB s g (otherI w) = false) ∧ (∀ g, ¬ ltW w g f → hallB s g (otherI w) = true → ∀ h, ltW w g h → anyB s h = false)
def juP (s : Lw.Stops) (f w j : Int) : Prop := (j = -1 ∨ j = f) ∧ (j = f → hasB s.press f = false ∧ hallB s f w = false)
def levP (s : Lw.Stops) (f w j : Int) : Nat → Prop
  | 0 => (w = 1 ∨ w = 2) ∧ onesI s ≤ 2 ∧ (j ≠ f → anyB s f = true ∨ aheadB s f w = true)
  | 1 => (w = 1 ∨ w = 2) ∧ behP s f w ∧ oppP s f w
  | 2 => (w = 1 ∨ w = 2) ∧ behP s f w
  | 3 => w = 1 ∨ w = 2
  | _ => w = 0
def endD (f w : Int) : Int := if w = 1 then 63 - f else if w = 2 then f else 0
def phiS (s : Lw.Stops) (f w j : Int) : Nat → Int
  | 0 => 64 * onesI s + (if j = f then 63 else endD f w)
  | 1 => 264 + onesI s + endD f w
  | 2 => 328 + onesI s + endD f w
  | 3 => 392 + onesI s + endD f w
  | _ => 456 + onesI s
def nextF (f x : Int) : Int := if x = 1 then f + 1 else f - 1
def s7 : Summ := fun xs M => match xs, M with
  | [.one (.agg css), .one (.c (.pl (.int .u8 fl))), .one (.c (.pl (.int .u8 wy)))], [] => (Lw.Stops.of css).bind fun s => ansP ((stopsR s ∧ (0 ≤ fl ∧ fl ≤ 255) ∧ (0 ≤ wy ∧ wy ≤ 255))) (vb true)
  | _, _ => none
def tb64 : List (FuncId × Summ) := (7, s7) :: tb63
end Go.Proofs.Ytjbdabpjepjohaa
