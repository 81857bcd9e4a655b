/- The types of this seat's program, for the abstract machine; the kernel holds them against the program's own. Printed by program (tys.py). -/
import Derived.Test.YtjpfeckkajhhjaaProg
import Derived.Test.YtjpfeckkajhhjaaChecked
import Derived.Test.YtjpfeckkajhhjaaFw21
import Derived.KernelRfl
namespace Go.Proofs.Ytjpfeckkajhhjaa
open Lw
def eid : RTy → TypeId
  | .u8 => 5
  | .str => 9
  | .ask => 43
  | .int => 3
  | .lop => 68
  | .lease => 66
  | _ => 0
def tysL : List (Nat × TI) := [
  (2, { size := 1, zero := [.pl (.int .i64 0)], ik := some .i64 }),
  (3, { size := 1, zero := [.pl (.int .i64 0)], ik := some .i64 }),
  (4, { size := 1, zero := [.pl (.bool false)], isBool := true }),
  (5, { size := 1, zero := [.pl (.int .u8 0)], ik := some .u8 }),
  (9, { size := 1, zero := [.pl (.str ByteArray.empty)] }),
  (21, { size := 1, zero := [.pl (.int .i32 0)], ik := some .i32 }),
  (24, { size := 1, zero := [.nilp], isPtr := true }),
  (27, { size := 1, zero := [.es], elem := some .u8 }),
  (28, { size := 4, agg := true, zero := [.pl (.int .i64 0), .pl (.int .i64 0), .pl (.int .i64 0), .es], flds := [⟨0, 1, false⟩, ⟨1, 1, false⟩, ⟨2, 1, false⟩, ⟨3, 1, false⟩] }),
  (29, { size := 4, agg := true, zero := [.pl (.int .i64 0), .pl (.int .i64 0), .pl (.int .i64 0), .es], flds := [⟨0, 1, false⟩, ⟨1, 1, false⟩, ⟨2, 1, false⟩, ⟨3, 1, false⟩] }),
  (30, { size := 1, zero := [.es], elem := some .str }),
  (39, { size := 1, zero := [.nilp], isPtr := true }),
  (41, { size := 1, zero := [.es], elem := some .ask }),
  (42, { size := 5, agg := true, zero := [.pl (.int .i64 0), .pl (.int .i64 0), .pl (.int .i64 0), .pl (.int .i64 0), .pl (.int .i64 0)], flds := [⟨0, 1, false⟩, ⟨1, 1, false⟩, ⟨2, 1, false⟩, ⟨3, 1, false⟩, ⟨4, 1, false⟩], eqk := true }),
  (43, { size := 5, agg := true, zero := [.pl (.int .i64 0), .pl (.int .i64 0), .pl (.int .i64 0), .pl (.int .i64 0), .pl (.int .i64 0)], flds := [⟨0, 1, false⟩, ⟨1, 1, false⟩, ⟨2, 1, false⟩, ⟨3, 1, false⟩, ⟨4, 1, false⟩], eqk := true }),
  (44, { size := 1, zero := [.es], elem := some .int }),
  (45, { size := 7, agg := true, zero := [.pl (.int .i64 0), .pl (.int .i64 0), .pl (.int .i64 0), .pl (.int .i64 0), .pl (.int .i64 0), .pl (.int .i64 0), .es], flds := [⟨0, 1, false⟩, ⟨1, 5, true⟩, ⟨6, 1, false⟩] }),
  (46, { size := 7, agg := true, zero := [.pl (.int .i64 0), .pl (.int .i64 0), .pl (.int .i64 0), .pl (.int .i64 0), .pl (.int .i64 0), .pl (.int .i64 0), .es], flds := [⟨0, 1, false⟩, ⟨1, 5, true⟩, ⟨6, 1, false⟩] }),
  (47, { size := 1, zero := [.pl (.int .i64 0)], ik := some .i64 }),
  (59, { size := 18, agg := true, zero := [.pl (.int .i64 0), .pl (.int .i64 0), .pl (.int .i64 0), .pl (.int .i64 0), .pl (.int .i64 0), .pl (.int .i64 0), .pl (.int .i64 0), .pl (.int .i64 0), .pl (.int .i64 0), .pl (.int .i64 0), .pl (.int .i64 0), .pl (.int .i64 0), .pl (.int .i64 0), .pl (.int .i64 0), .pl (.int .i64 0), .pl (.int .i64 0), .pl (.int .i64 0), .pl (.int .i64 0)], flds := [⟨0, 1, false⟩, ⟨1, 1, false⟩, ⟨2, 1, false⟩, ⟨3, 1, false⟩, ⟨4, 1, false⟩, ⟨5, 1, false⟩, ⟨6, 1, false⟩, ⟨7, 1, false⟩, ⟨8, 1, false⟩, ⟨9, 1, false⟩, ⟨10, 1, false⟩, ⟨11, 1, false⟩, ⟨12, 1, false⟩, ⟨13, 1, false⟩, ⟨14, 1, false⟩, ⟨15, 1, false⟩, ⟨16, 1, false⟩, ⟨17, 1, false⟩], eqk := true }),
  (60, { size := 18, agg := true, zero := [.pl (.int .i64 0), .pl (.int .i64 0), .pl (.int .i64 0), .pl (.int .i64 0), .pl (.int .i64 0), .pl (.int .i64 0), .pl (.int .i64 0), .pl (.int .i64 0), .pl (.int .i64 0), .pl (.int .i64 0), .pl (.int .i64 0), .pl (.int .i64 0), .pl (.int .i64 0), .pl (.int .i64 0), .pl (.int .i64 0), .pl (.int .i64 0), .pl (.int .i64 0), .pl (.int .i64 0)], flds := [⟨0, 1, false⟩, ⟨1, 1, false⟩, ⟨2, 1, false⟩, ⟨3, 1, false⟩, ⟨4, 1, false⟩, ⟨5, 1, false⟩, ⟨6, 1, false⟩, ⟨7, 1, false⟩, ⟨8, 1, false⟩, ⟨9, 1, false⟩, ⟨10, 1, false⟩, ⟨11, 1, false⟩, ⟨12, 1, false⟩, ⟨13, 1, false⟩, ⟨14, 1, false⟩, ⟨15, 1, false⟩, ⟨16, 1, false⟩, ⟨17, 1, false⟩], eqk := true }),
  (61, { size := 1, zero := [.es], elem := some .lop }),
  (62, { size := 1, zero := [.nilp], isPtr := true }),
  (64, { size := 1, zero := [.es], elem := some .lease }),
  (65, { size := 10, agg := true, zero := [.pl (.int .i64 0), .pl (.int .i64 0), .pl (.int .i64 0), .pl (.int .i64 0), .pl (.int .i64 0), .pl (.int .i64 0), .pl (.int .i64 0), .pl (.int .i64 0), .pl (.int .i64 0), .pl (.int .i64 0)], flds := [⟨0, 5, true⟩, ⟨5, 1, false⟩, ⟨6, 1, false⟩, ⟨7, 1, false⟩, ⟨8, 1, false⟩, ⟨9, 1, false⟩], eqk := true }),
  (66, { size := 10, agg := true, zero := [.pl (.int .i64 0), .pl (.int .i64 0), .pl (.int .i64 0), .pl (.int .i64 0), .pl (.int .i64 0), .pl (.int .i64 0), .pl (.int .i64 0), .pl (.int .i64 0), .pl (.int .i64 0), .pl (.int .i64 0)], flds := [⟨0, 5, true⟩, ⟨5, 1, false⟩, ⟨6, 1, false⟩, ⟨7, 1, false⟩, ⟨8, 1, false⟩, ⟨9, 1, false⟩], eqk := true }),
  (67, { size := 11, agg := true, zero := [.pl (.int .i64 0), .pl (.int .i64 0), .pl (.int .i64 0), .pl (.int .i64 0), .pl (.int .i64 0), .pl (.int .i64 0), .pl (.int .i64 0), .pl (.int .i64 0), .pl (.int .i64 0), .pl (.int .i64 0), .pl (.int .i64 0)], flds := [⟨0, 1, false⟩, ⟨1, 10, true⟩], eqk := true }),
  (68, { size := 11, agg := true, zero := [.pl (.int .i64 0), .pl (.int .i64 0), .pl (.int .i64 0), .pl (.int .i64 0), .pl (.int .i64 0), .pl (.int .i64 0), .pl (.int .i64 0), .pl (.int .i64 0), .pl (.int .i64 0), .pl (.int .i64 0), .pl (.int .i64 0)], flds := [⟨0, 1, false⟩, ⟨1, 10, true⟩], eqk := true }),
  (79, { size := 2, agg := true, zero := [.es, .pl (.int .i64 0)], flds := [⟨0, 1, false⟩, ⟨1, 1, false⟩] }),
  (80, { size := 2, agg := true, zero := [.es, .pl (.int .i64 0)], flds := [⟨0, 1, false⟩, ⟨1, 1, false⟩] }),
  (83, { size := 2, agg := true, zero := [.es, .pl (.int .i64 0)], flds := [⟨0, 1, false⟩, ⟨1, 1, false⟩] }),
  (84, { size := 2, agg := true, zero := [.es, .pl (.int .i64 0)], flds := [⟨0, 1, false⟩, ⟨1, 1, false⟩] }),
  (89, { size := 19, agg := true, zero := [.pl (.int .i64 0), .pl (.int .i64 0), .pl (.int .i64 0), .pl (.int .i64 0), .pl (.int .i64 0), .pl (.int .i64 0), .pl (.int .i64 0), .pl (.int .i64 0), .pl (.int .i64 0), .pl (.int .i64 0), .pl (.int .i64 0), .pl (.int .i64 0), .pl (.int .i64 0), .pl (.int .i64 0), .pl (.int .i64 0), .pl (.int .i64 0), .pl (.int .i64 0), .pl (.int .i64 0), .es], flds := [⟨0, 18, true⟩, ⟨18, 1, false⟩] }),
  (90, { size := 19, agg := true, zero := [.pl (.int .i64 0), .pl (.int .i64 0), .pl (.int .i64 0), .pl (.int .i64 0), .pl (.int .i64 0), .pl (.int .i64 0), .pl (.int .i64 0), .pl (.int .i64 0), .pl (.int .i64 0), .pl (.int .i64 0), .pl (.int .i64 0), .pl (.int .i64 0), .pl (.int .i64 0), .pl (.int .i64 0), .pl (.int .i64 0), .pl (.int .i64 0), .pl (.int .i64 0), .pl (.int .i64 0), .es], flds := [⟨0, 18, true⟩, ⟨18, 1, false⟩] }),
  (110, { size := 1, zero := [.pl (.int .u32 0)], ik := some .u32 }),
  (114, { size := 1, zero := [.nilp], isPtr := true })]
abbrev tys : Tys := lookTy tysL
theorem tys_ok : ∀ W0, Agree ⟨Try.prog, W0, eid⟩ tys := agree_of (by kernel_rfl)
end Go.Proofs.Ytjpfeckkajhhjaa
