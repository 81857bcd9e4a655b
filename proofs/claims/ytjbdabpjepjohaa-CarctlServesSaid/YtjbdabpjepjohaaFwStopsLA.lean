/- What the functions of this group answer, and the tables of summaries. -/
import Derived.Test.YtjbdabpjepjohaaFwScanSA
set_option linter.unusedVariables false
namespace Go.Proofs.Ytjbdabpjepjohaa
open Lw
def callsN (s : Lw.Stops) : Nat → List Lw.Call
  | 0 => []
  | n + 1 => callsN s n ++ ((if hasB s.up n = true then [⟨n, 1⟩] else []) ++ (if hasB s.down n = true then [⟨n, 2⟩] else []))
def partC (s : Lw.Stops) (i k : Int) : List Lw.Call := (if 1 ≤ k ∧ hasB s.up i = true then [⟨i, 1⟩] else []) ++ (if 2 ≤ k ∧ hasB s.down i = true then [⟨i, 2⟩] else [])
def callsS : Summ := fun xs M => match xs, M with
  | [.one (.agg ks)], [] => (Lw.Stops.of ks).bind fun s => some (.leaf ⟨some (stopsR s), .one (.c (.row 0)), none, [.row .call (callsN s 64)]⟩)
  | _, _ => none
def tb65 : List (FuncId × Summ) := (26, callsS) :: tb64
end Go.Proofs.Ytjbdabpjepjohaa
