/- The types of this seat's program, for the abstract machine; the kernel holds them against the program's own. Printed by program (tys.py). -/
import Derived.Test.YtjgmkpidiaojkaaProg
import Derived.Test.YtjgmkpidiaojkaaChecked
import Derived.Test.YtjgmkpidiaojkaaFw21
import Derived.KernelRfl
namespace Go.Proofs.Ytjgmkpidiaojkaa
open Lw
def eid : RTy → TypeId
  | .gop => 28
  | .car => 41
  | .wait => 48
  | .int => 3
  | _ => 0
def tysL : List (Nat × TI) := [
  (2, { size := 1, zero := [.pl (.int .i64 0)], ik := some .i64 }),
  (3, { size := 1, zero := [.pl (.int .i64 0)], ik := some .i64 }),
  (4, { size := 1, zero := [.pl (.bool false)], isBool := true }),
  (5, { size := 1, zero := [.pl (.int .u8 0)], ik := some .u8 }),
  (9, { size := 1, zero := [.pl (.str ByteArray.empty)] }),
  (21, { size := 1, zero := [.pl (.int .i32 0)], ik := some .i32 }),
  (22, { size := 18, agg := true, zero := [.pl (.int .i64 0), .pl (.int .i64 0), .pl (.int .i64 0), .pl (.int .i64 0), .pl (.int .i64 0), .pl (.int .i64 0), .pl (.int .i64 0), .pl (.int .i64 0), .pl (.int .i64 0), .pl (.int .i64 0), .pl (.int .i64 0), .pl (.int .i64 0), .pl (.int .i64 0), .pl (.int .i64 0), .pl (.int .i64 0), .pl (.int .i64 0), .pl (.int .i64 0), .pl (.int .i64 0)], flds := [⟨0, 1, false⟩, ⟨1, 1, false⟩, ⟨2, 1, false⟩, ⟨3, 1, false⟩, ⟨4, 1, false⟩, ⟨5, 1, false⟩, ⟨6, 1, false⟩, ⟨7, 1, false⟩, ⟨8, 1, false⟩, ⟨9, 1, false⟩, ⟨10, 1, false⟩, ⟨11, 1, false⟩, ⟨12, 1, false⟩, ⟨13, 1, false⟩, ⟨14, 1, false⟩, ⟨15, 1, false⟩, ⟨16, 1, false⟩, ⟨17, 1, false⟩], eqk := true }),
  (23, { size := 18, agg := true, zero := [.pl (.int .i64 0), .pl (.int .i64 0), .pl (.int .i64 0), .pl (.int .i64 0), .pl (.int .i64 0), .pl (.int .i64 0), .pl (.int .i64 0), .pl (.int .i64 0), .pl (.int .i64 0), .pl (.int .i64 0), .pl (.int .i64 0), .pl (.int .i64 0), .pl (.int .i64 0), .pl (.int .i64 0), .pl (.int .i64 0), .pl (.int .i64 0), .pl (.int .i64 0), .pl (.int .i64 0)], flds := [⟨0, 1, false⟩, ⟨1, 1, false⟩, ⟨2, 1, false⟩, ⟨3, 1, false⟩, ⟨4, 1, false⟩, ⟨5, 1, false⟩, ⟨6, 1, false⟩, ⟨7, 1, false⟩, ⟨8, 1, false⟩, ⟨9, 1, false⟩, ⟨10, 1, false⟩, ⟨11, 1, false⟩, ⟨12, 1, false⟩, ⟨13, 1, false⟩, ⟨14, 1, false⟩, ⟨15, 1, false⟩, ⟨16, 1, false⟩, ⟨17, 1, false⟩], eqk := true }),
  (24, { size := 1, zero := [.es], elem := some .gop }),
  (25, { size := 1, zero := [.nilp], isPtr := true }),
  (27, { size := 4, agg := true, zero := [.pl (.int .i64 0), .pl (.int .i64 0), .pl (.int .i64 0), .pl (.bool false)], flds := [⟨0, 1, false⟩, ⟨1, 1, false⟩, ⟨2, 1, false⟩, ⟨3, 1, false⟩], eqk := true }),
  (28, { size := 4, agg := true, zero := [.pl (.int .i64 0), .pl (.int .i64 0), .pl (.int .i64 0), .pl (.bool false)], flds := [⟨0, 1, false⟩, ⟨1, 1, false⟩, ⟨2, 1, false⟩, ⟨3, 1, false⟩], eqk := true }),
  (29, { size := 1, zero := [.pl (.int .i64 0)], ik := some .i64 }),
  (31, { size := 1, zero := [.es], elem := some .car }),
  (33, { size := 1, zero := [.es], elem := some .wait }),
  (35, { size := 2, agg := true, zero := [.pl (.int .i64 0), .pl (.int .i64 0)], flds := [⟨0, 1, false⟩, ⟨1, 1, false⟩], eqk := true }),
  (36, { size := 2, agg := true, zero := [.pl (.int .i64 0), .pl (.int .i64 0)], flds := [⟨0, 1, false⟩, ⟨1, 1, false⟩], eqk := true }),
  (37, { size := 1, zero := [.pl (.int .u64 0)], ik := some .u64 }),
  (38, { size := 3, agg := true, zero := [.pl (.int .u64 0), .pl (.int .u64 0), .pl (.int .u64 0)], flds := [⟨0, 1, false⟩, ⟨1, 1, false⟩, ⟨2, 1, false⟩], eqk := true }),
  (39, { size := 3, agg := true, zero := [.pl (.int .u64 0), .pl (.int .u64 0), .pl (.int .u64 0)], flds := [⟨0, 1, false⟩, ⟨1, 1, false⟩, ⟨2, 1, false⟩], eqk := true }),
  (40, { size := 15, agg := true, zero := [.pl (.int .i64 0), .pl (.int .i64 0), .pl (.int .i64 0), .pl (.int .i64 0), .pl (.int .i64 0), .pl (.int .i64 0), .pl (.int .i64 0), .pl (.bool false), .pl (.bool false), .pl (.int .i64 0), .pl (.int .i64 0), .pl (.bool false), .pl (.int .u64 0), .pl (.int .u64 0), .pl (.int .u64 0)], flds := [⟨0, 2, true⟩, ⟨2, 1, false⟩, ⟨3, 1, false⟩, ⟨4, 1, false⟩, ⟨5, 1, false⟩, ⟨6, 1, false⟩, ⟨7, 1, false⟩, ⟨8, 1, false⟩, ⟨9, 1, false⟩, ⟨10, 1, false⟩, ⟨11, 1, false⟩, ⟨12, 3, true⟩], eqk := true }),
  (41, { size := 15, agg := true, zero := [.pl (.int .i64 0), .pl (.int .i64 0), .pl (.int .i64 0), .pl (.int .i64 0), .pl (.int .i64 0), .pl (.int .i64 0), .pl (.int .i64 0), .pl (.bool false), .pl (.bool false), .pl (.int .i64 0), .pl (.int .i64 0), .pl (.bool false), .pl (.int .u64 0), .pl (.int .u64 0), .pl (.int .u64 0)], flds := [⟨0, 2, true⟩, ⟨2, 1, false⟩, ⟨3, 1, false⟩, ⟨4, 1, false⟩, ⟨5, 1, false⟩, ⟨6, 1, false⟩, ⟨7, 1, false⟩, ⟨8, 1, false⟩, ⟨9, 1, false⟩, ⟨10, 1, false⟩, ⟨11, 1, false⟩, ⟨12, 3, true⟩], eqk := true }),
  (45, { size := 2, agg := true, zero := [.pl (.int .i64 0), .pl (.int .i64 0)], flds := [⟨0, 1, false⟩, ⟨1, 1, false⟩], eqk := true }),
  (46, { size := 2, agg := true, zero := [.pl (.int .i64 0), .pl (.int .i64 0)], flds := [⟨0, 1, false⟩, ⟨1, 1, false⟩], eqk := true }),
  (47, { size := 4, agg := true, zero := [.pl (.int .i64 0), .pl (.int .i64 0), .pl (.int .i64 0), .pl (.int .i64 0)], flds := [⟨0, 2, true⟩, ⟨2, 1, false⟩, ⟨3, 1, false⟩], eqk := true }),
  (48, { size := 4, agg := true, zero := [.pl (.int .i64 0), .pl (.int .i64 0), .pl (.int .i64 0), .pl (.int .i64 0)], flds := [⟨0, 2, true⟩, ⟨2, 1, false⟩, ⟨3, 1, false⟩], eqk := true }),
  (56, { size := 21, agg := true, zero := [.pl (.int .i64 0), .pl (.int .i64 0), .pl (.int .i64 0), .pl (.int .i64 0), .pl (.int .i64 0), .pl (.int .i64 0), .pl (.int .i64 0), .pl (.int .i64 0), .pl (.int .i64 0), .pl (.int .i64 0), .pl (.int .i64 0), .pl (.int .i64 0), .pl (.int .i64 0), .pl (.int .i64 0), .pl (.int .i64 0), .pl (.int .i64 0), .pl (.int .i64 0), .pl (.int .i64 0), .es, .es, .pl (.int .i64 0)], flds := [⟨0, 18, true⟩, ⟨18, 1, false⟩, ⟨19, 1, false⟩, ⟨20, 1, false⟩] }),
  (57, { size := 21, agg := true, zero := [.pl (.int .i64 0), .pl (.int .i64 0), .pl (.int .i64 0), .pl (.int .i64 0), .pl (.int .i64 0), .pl (.int .i64 0), .pl (.int .i64 0), .pl (.int .i64 0), .pl (.int .i64 0), .pl (.int .i64 0), .pl (.int .i64 0), .pl (.int .i64 0), .pl (.int .i64 0), .pl (.int .i64 0), .pl (.int .i64 0), .pl (.int .i64 0), .pl (.int .i64 0), .pl (.int .i64 0), .es, .es, .pl (.int .i64 0)], flds := [⟨0, 18, true⟩, ⟨18, 1, false⟩, ⟨19, 1, false⟩, ⟨20, 1, false⟩] }),
  (71, { size := 1, zero := [.pl (.int .u64 0)], ik := some .u64 }),
  (74, { size := 1, zero := [.nilp], isPtr := true }),
  (87, { size := 3, agg := true, zero := [.pl (.int .i64 0), .pl (.bool false), .pl (.bool false)], flds := [⟨0, 1, false⟩, ⟨1, 1, false⟩, ⟨2, 1, false⟩], eqk := true }),
  (88, { size := 3, agg := true, zero := [.pl (.int .i64 0), .pl (.bool false), .pl (.bool false)], flds := [⟨0, 1, false⟩, ⟨1, 1, false⟩, ⟨2, 1, false⟩], eqk := true }),
  (89, { size := 21, agg := true, zero := [.pl (.int .i64 0), .pl (.int .i64 0), .pl (.int .i64 0), .pl (.int .i64 0), .pl (.int .i64 0), .pl (.int .i64 0), .pl (.int .i64 0), .pl (.bool false), .pl (.bool false), .pl (.int .i64 0), .pl (.int .i64 0), .pl (.bool false), .pl (.int .u64 0), .pl (.int .u64 0), .pl (.int .u64 0), .pl (.int .i64 0), .pl (.bool false), .pl (.bool false), .pl (.int .i64 0), .pl (.int .i64 0), .pl (.bool false)], flds := [⟨0, 15, true⟩, ⟨15, 3, true⟩, ⟨18, 2, true⟩, ⟨20, 1, false⟩], eqk := true }),
  (90, { size := 21, agg := true, zero := [.pl (.int .i64 0), .pl (.int .i64 0), .pl (.int .i64 0), .pl (.int .i64 0), .pl (.int .i64 0), .pl (.int .i64 0), .pl (.int .i64 0), .pl (.bool false), .pl (.bool false), .pl (.int .i64 0), .pl (.int .i64 0), .pl (.bool false), .pl (.int .u64 0), .pl (.int .u64 0), .pl (.int .u64 0), .pl (.int .i64 0), .pl (.bool false), .pl (.bool false), .pl (.int .i64 0), .pl (.int .i64 0), .pl (.bool false)], flds := [⟨0, 15, true⟩, ⟨15, 3, true⟩, ⟨18, 2, true⟩, ⟨20, 1, false⟩], eqk := true }),
  (94, { size := 1, zero := [.pl (.int .u32 0)], ik := some .u32 }),
  (102, { size := 1, zero := [.nilp], isPtr := true }),
  (104, { size := 1, zero := [.nilp], isPtr := true }),
  (105, { size := 1, zero := [.nilp], isPtr := true }),
  (115, { size := 4, agg := true, zero := [.pl (.int .u64 0), .pl (.int .u64 0), .pl (.int .u64 0), .pl (.int .i64 0)], flds := [⟨0, 3, true⟩, ⟨3, 1, false⟩], eqk := true }),
  (116, { size := 4, agg := true, zero := [.pl (.int .u64 0), .pl (.int .u64 0), .pl (.int .u64 0), .pl (.int .i64 0)], flds := [⟨0, 3, true⟩, ⟨3, 1, false⟩], eqk := true }),
  (119, { size := 1, zero := [.es], elem := some .int }),
  (130, { size := 1, zero := [.nilp], isPtr := true })]
abbrev tys : Tys := lookTy tysL
theorem tys_ok : ∀ W0, Agree ⟨Try.prog, W0, eid⟩ tys := agree_of (by kernel_rfl)
end Go.Proofs.Ytjgmkpidiaojkaa
