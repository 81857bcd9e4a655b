/- The types of this seat's program, for the abstract machine; the kernel holds them against the program's own. Printed by program (tys.py). -/
import Derived.Test.YtijcloeapcapiaaProg
import Derived.Test.YtijcloeapcapiaaChecked
import Derived.Test.YtijcloeapcapiaaFw21
import Derived.KernelRfl
namespace Go.Proofs.Ytijcloeapcapiaa
open Lw
def eid : RTy → TypeId
  | .msg => 46
  | .car => 34
  | .u8 => 5
  | .cmd => 66
  | .bool => 4
  | .lease => 27
  | _ => 0
def tysL : List (Nat × TI) := [
  (2, { size := 1, zero := [.pl (.int .i64 0)], ik := some .i64 }),
  (3, { size := 1, zero := [.pl (.int .i64 0)], ik := some .i64 }),
  (4, { size := 1, zero := [.pl (.bool false)], isBool := true }),
  (5, { size := 1, zero := [.pl (.int .u8 0)], ik := some .u8 }),
  (9, { size := 1, zero := [.pl (.str ByteArray.empty)] }),
  (21, { size := 1, zero := [.pl (.int .i32 0)], ik := some .i32 }),
  (22, { size := 18, agg := true, zero := [.pl (.int .i64 0), .pl (.int .i64 0), .pl (.int .i64 0), .pl (.int .i64 0), .pl (.int .i64 0), .pl (.int .i64 0), .pl (.int .i64 0), .pl (.int .i64 0), .pl (.int .i64 0), .pl (.int .i64 0), .pl (.int .i64 0), .pl (.int .i64 0), .pl (.int .i64 0), .pl (.int .i64 0), .pl (.int .i64 0), .pl (.int .i64 0), .pl (.int .i64 0), .pl (.int .i64 0)], flds := [⟨0, 1, false⟩, ⟨1, 1, false⟩, ⟨2, 1, false⟩, ⟨3, 1, false⟩, ⟨4, 1, false⟩, ⟨5, 1, false⟩, ⟨6, 1, false⟩, ⟨7, 1, false⟩, ⟨8, 1, false⟩, ⟨9, 1, false⟩, ⟨10, 1, false⟩, ⟨11, 1, false⟩, ⟨12, 1, false⟩, ⟨13, 1, false⟩, ⟨14, 1, false⟩, ⟨15, 1, false⟩, ⟨16, 1, false⟩, ⟨17, 1, false⟩], eqk := true }),
  (23, { size := 18, agg := true, zero := [.pl (.int .i64 0), .pl (.int .i64 0), .pl (.int .i64 0), .pl (.int .i64 0), .pl (.int .i64 0), .pl (.int .i64 0), .pl (.int .i64 0), .pl (.int .i64 0), .pl (.int .i64 0), .pl (.int .i64 0), .pl (.int .i64 0), .pl (.int .i64 0), .pl (.int .i64 0), .pl (.int .i64 0), .pl (.int .i64 0), .pl (.int .i64 0), .pl (.int .i64 0), .pl (.int .i64 0)], flds := [⟨0, 1, false⟩, ⟨1, 1, false⟩, ⟨2, 1, false⟩, ⟨3, 1, false⟩, ⟨4, 1, false⟩, ⟨5, 1, false⟩, ⟨6, 1, false⟩, ⟨7, 1, false⟩, ⟨8, 1, false⟩, ⟨9, 1, false⟩, ⟨10, 1, false⟩, ⟨11, 1, false⟩, ⟨12, 1, false⟩, ⟨13, 1, false⟩, ⟨14, 1, false⟩, ⟨15, 1, false⟩, ⟨16, 1, false⟩, ⟨17, 1, false⟩], eqk := true }),
  (24, { size := 5, agg := true, zero := [.pl (.int .i64 0), .pl (.int .i64 0), .pl (.int .i64 0), .pl (.int .i64 0), .pl (.int .i64 0)], flds := [⟨0, 1, false⟩, ⟨1, 1, false⟩, ⟨2, 1, false⟩, ⟨3, 1, false⟩, ⟨4, 1, false⟩], eqk := true }),
  (25, { size := 5, agg := true, zero := [.pl (.int .i64 0), .pl (.int .i64 0), .pl (.int .i64 0), .pl (.int .i64 0), .pl (.int .i64 0)], flds := [⟨0, 1, false⟩, ⟨1, 1, false⟩, ⟨2, 1, false⟩, ⟨3, 1, false⟩, ⟨4, 1, false⟩], eqk := true }),
  (26, { size := 10, agg := true, zero := [.pl (.int .i64 0), .pl (.int .i64 0), .pl (.int .i64 0), .pl (.int .i64 0), .pl (.int .i64 0), .pl (.int .i64 0), .pl (.int .i64 0), .pl (.int .i64 0), .pl (.int .i64 0), .pl (.int .i64 0)], flds := [⟨0, 5, true⟩, ⟨5, 1, false⟩, ⟨6, 1, false⟩, ⟨7, 1, false⟩, ⟨8, 1, false⟩, ⟨9, 1, false⟩], eqk := true }),
  (27, { size := 10, agg := true, zero := [.pl (.int .i64 0), .pl (.int .i64 0), .pl (.int .i64 0), .pl (.int .i64 0), .pl (.int .i64 0), .pl (.int .i64 0), .pl (.int .i64 0), .pl (.int .i64 0), .pl (.int .i64 0), .pl (.int .i64 0)], flds := [⟨0, 5, true⟩, ⟨5, 1, false⟩, ⟨6, 1, false⟩, ⟨7, 1, false⟩, ⟨8, 1, false⟩, ⟨9, 1, false⟩], eqk := true }),
  (28, { size := 2, agg := true, zero := [.pl (.int .i64 0), .pl (.int .i64 0)], flds := [⟨0, 1, false⟩, ⟨1, 1, false⟩], eqk := true }),
  (29, { size := 2, agg := true, zero := [.pl (.int .i64 0), .pl (.int .i64 0)], flds := [⟨0, 1, false⟩, ⟨1, 1, false⟩], eqk := true }),
  (30, { size := 1, zero := [.pl (.int .u64 0)], ik := some .u64 }),
  (31, { size := 3, agg := true, zero := [.pl (.int .u64 0), .pl (.int .u64 0), .pl (.int .u64 0)], flds := [⟨0, 1, false⟩, ⟨1, 1, false⟩, ⟨2, 1, false⟩], eqk := true }),
  (32, { size := 3, agg := true, zero := [.pl (.int .u64 0), .pl (.int .u64 0), .pl (.int .u64 0)], flds := [⟨0, 1, false⟩, ⟨1, 1, false⟩, ⟨2, 1, false⟩], eqk := true }),
  (33, { size := 15, agg := true, zero := [.pl (.int .i64 0), .pl (.int .i64 0), .pl (.int .i64 0), .pl (.int .i64 0), .pl (.int .i64 0), .pl (.int .i64 0), .pl (.int .i64 0), .pl (.bool false), .pl (.bool false), .pl (.int .i64 0), .pl (.int .i64 0), .pl (.bool false), .pl (.int .u64 0), .pl (.int .u64 0), .pl (.int .u64 0)], flds := [⟨0, 2, true⟩, ⟨2, 1, false⟩, ⟨3, 1, false⟩, ⟨4, 1, false⟩, ⟨5, 1, false⟩, ⟨6, 1, false⟩, ⟨7, 1, false⟩, ⟨8, 1, false⟩, ⟨9, 1, false⟩, ⟨10, 1, false⟩, ⟨11, 1, false⟩, ⟨12, 3, true⟩], eqk := true }),
  (34, { size := 15, agg := true, zero := [.pl (.int .i64 0), .pl (.int .i64 0), .pl (.int .i64 0), .pl (.int .i64 0), .pl (.int .i64 0), .pl (.int .i64 0), .pl (.int .i64 0), .pl (.bool false), .pl (.bool false), .pl (.int .i64 0), .pl (.int .i64 0), .pl (.bool false), .pl (.int .u64 0), .pl (.int .u64 0), .pl (.int .u64 0)], flds := [⟨0, 2, true⟩, ⟨2, 1, false⟩, ⟨3, 1, false⟩, ⟨4, 1, false⟩, ⟨5, 1, false⟩, ⟨6, 1, false⟩, ⟨7, 1, false⟩, ⟨8, 1, false⟩, ⟨9, 1, false⟩, ⟨10, 1, false⟩, ⟨11, 1, false⟩, ⟨12, 3, true⟩], eqk := true }),
  (36, { size := 1, zero := [.es], elem := some .msg }),
  (45, { size := 4, agg := true, zero := [.pl (.int .i64 0), .pl (.int .i64 0), .pl (.int .i64 0), .pl (.int .i64 0)], flds := [⟨0, 1, false⟩, ⟨1, 1, false⟩, ⟨2, 1, false⟩, ⟨3, 1, false⟩], eqk := true }),
  (46, { size := 4, agg := true, zero := [.pl (.int .i64 0), .pl (.int .i64 0), .pl (.int .i64 0), .pl (.int .i64 0)], flds := [⟨0, 1, false⟩, ⟨1, 1, false⟩, ⟨2, 1, false⟩, ⟨3, 1, false⟩], eqk := true }),
  (49, { size := 1, zero := [.es], elem := some .car }),
  (50, { size := 1, zero := [.es], elem := some .u8 }),
  (55, { size := 2, agg := true, zero := [.pl (.int .i64 0), .pl (.int .i64 0)], flds := [⟨0, 1, false⟩, ⟨1, 1, false⟩], eqk := true }),
  (56, { size := 2, agg := true, zero := [.pl (.int .i64 0), .pl (.int .i64 0)], flds := [⟨0, 1, false⟩, ⟨1, 1, false⟩], eqk := true }),
  (65, { size := 3, agg := true, zero := [.pl (.int .i64 0), .pl (.bool false), .pl (.bool false)], flds := [⟨0, 1, false⟩, ⟨1, 1, false⟩, ⟨2, 1, false⟩], eqk := true }),
  (66, { size := 3, agg := true, zero := [.pl (.int .i64 0), .pl (.bool false), .pl (.bool false)], flds := [⟨0, 1, false⟩, ⟨1, 1, false⟩, ⟨2, 1, false⟩], eqk := true }),
  (71, { size := 1, zero := [.es], elem := some .cmd }),
  (72, { size := 1, zero := [.es], elem := some .bool }),
  (76, { size := 12, agg := true, zero := [.pl (.int .i64 0), .pl (.int .i64 0), .pl (.int .i64 0), .pl (.int .i64 0), .pl (.int .i64 0), .pl (.int .i64 0), .pl (.int .i64 0), .pl (.int .i64 0), .pl (.int .i64 0), .pl (.int .i64 0), .es, .pl (.bool false)], flds := [⟨0, 10, true⟩, ⟨10, 1, false⟩, ⟨11, 1, false⟩] }),
  (77, { size := 12, agg := true, zero := [.pl (.int .i64 0), .pl (.int .i64 0), .pl (.int .i64 0), .pl (.int .i64 0), .pl (.int .i64 0), .pl (.int .i64 0), .pl (.int .i64 0), .pl (.int .i64 0), .pl (.int .i64 0), .pl (.int .i64 0), .es, .pl (.bool false)], flds := [⟨0, 10, true⟩, ⟨10, 1, false⟩, ⟨11, 1, false⟩] }),
  (88, { size := 1, zero := [.pl (.int .u64 0)], ik := some .u64 }),
  (89, { size := 1, zero := [.nilp], isPtr := true }),
  (91, { size := 1, zero := [.pl (.int .i64 0)], ik := some .i64 }),
  (96, { size := 1, zero := [.es], elem := some .lease }),
  (101, { size := 1, zero := [.nilp], isPtr := true }),
  (104, { size := 19, agg := true, zero := [.pl (.int .i64 0), .pl (.int .i64 0), .pl (.int .i64 0), .pl (.int .i64 0), .pl (.int .i64 0), .pl (.int .i64 0), .pl (.int .i64 0), .pl (.int .i64 0), .pl (.int .i64 0), .pl (.int .i64 0), .pl (.int .i64 0), .pl (.int .i64 0), .pl (.int .i64 0), .pl (.int .i64 0), .pl (.int .i64 0), .pl (.int .i64 0), .pl (.int .i64 0), .pl (.int .i64 0), .es], flds := [⟨0, 18, true⟩, ⟨18, 1, false⟩] }),
  (105, { size := 19, agg := true, zero := [.pl (.int .i64 0), .pl (.int .i64 0), .pl (.int .i64 0), .pl (.int .i64 0), .pl (.int .i64 0), .pl (.int .i64 0), .pl (.int .i64 0), .pl (.int .i64 0), .pl (.int .i64 0), .pl (.int .i64 0), .pl (.int .i64 0), .pl (.int .i64 0), .pl (.int .i64 0), .pl (.int .i64 0), .pl (.int .i64 0), .pl (.int .i64 0), .pl (.int .i64 0), .pl (.int .i64 0), .es], flds := [⟨0, 18, true⟩, ⟨18, 1, false⟩] }),
  (120, { size := 1, zero := [.pl (.int .u32 0)], ik := some .u32 }),
  (124, { size := 1, zero := [.nilp], isPtr := true })]
abbrev tys : Tys := lookTy tysL
theorem tys_ok : ∀ W0, Agree ⟨Try.prog, W0, eid⟩ tys := agree_of (by kernel_rfl)
end Go.Proofs.Ytijcloeapcapiaa
