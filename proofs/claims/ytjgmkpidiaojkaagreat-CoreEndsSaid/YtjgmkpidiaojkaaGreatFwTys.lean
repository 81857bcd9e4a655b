/- The types of this seat's program, for the abstract machine; the kernel holds them against the program's own. Printed by program (tys.py). -/
import Derived.Test.YtjgmkpidiaojkaaGreatProg
import Derived.Test.YtjgmkpidiaojkaaGreatChecked
import Derived.Test.YtjgmkpidiaojkaaGreatFw21
import Derived.KernelRfl
namespace Go.Proofs.YtjgmkpidiaojkaaGreat
open Lw
def eid : RTy → TypeId
  | .cop => 34
  | .event => 72
  | .wait => 115
  | .lease => 44
  | .ask => 30
  | .gop => 55
  | .car => 87
  | .msg => 32
  | .int => 3
  | _ => 0
def tysL : List (Nat × TI) := [
  (2, { size := 1, zero := [.pl (.int .i64 0)], ik := some .i64 }),
  (3, { size := 1, zero := [.pl (.int .i64 0)], ik := some .i64 }),
  (4, { size := 1, zero := [.pl (.bool false)], isBool := true }),
  (5, { size := 1, zero := [.pl (.int .u8 0)], ik := some .u8 }),
  (9, { size := 1, zero := [.pl (.str ByteArray.empty)] }),
  (21, { size := 1, zero := [.pl (.int .i32 0)], ik := some .i32 }),
  (22, { size := 18, agg := true, zero := [.pl (.int .i64 0), .pl (.int .i64 0), .pl (.int .i64 0), .pl (.int .i64 0), .pl (.int .i64 0), .pl (.int .i64 0), .pl (.int .i64 0), .pl (.int .i64 0), .pl (.int .i64 0), .pl (.int .i64 0), .pl (.int .i64 0), .pl (.int .i64 0), .pl (.int .i64 0), .pl (.int .i64 0), .pl (.int .i64 0), .pl (.int .i64 0), .pl (.int .i64 0), .pl (.int .i64 0)], flds := [⟨0, 1, false⟩, ⟨1, 1, false⟩, ⟨2, 1, false⟩, ⟨3, 1, false⟩, ⟨4, 1, false⟩, ⟨5, 1, false⟩, ⟨6, 1, false⟩, ⟨7, 1, false⟩, ⟨8, 1, false⟩, ⟨9, 1, false⟩, ⟨10, 1, false⟩, ⟨11, 1, false⟩, ⟨12, 1, false⟩, ⟨13, 1, false⟩, ⟨14, 1, false⟩, ⟨15, 1, false⟩, ⟨16, 1, false⟩, ⟨17, 1, false⟩], eqk := true }),
  (23, { size := 18, agg := true, zero := [.pl (.int .i64 0), .pl (.int .i64 0), .pl (.int .i64 0), .pl (.int .i64 0), .pl (.int .i64 0), .pl (.int .i64 0), .pl (.int .i64 0), .pl (.int .i64 0), .pl (.int .i64 0), .pl (.int .i64 0), .pl (.int .i64 0), .pl (.int .i64 0), .pl (.int .i64 0), .pl (.int .i64 0), .pl (.int .i64 0), .pl (.int .i64 0), .pl (.int .i64 0), .pl (.int .i64 0)], flds := [⟨0, 1, false⟩, ⟨1, 1, false⟩, ⟨2, 1, false⟩, ⟨3, 1, false⟩, ⟨4, 1, false⟩, ⟨5, 1, false⟩, ⟨6, 1, false⟩, ⟨7, 1, false⟩, ⟨8, 1, false⟩, ⟨9, 1, false⟩, ⟨10, 1, false⟩, ⟨11, 1, false⟩, ⟨12, 1, false⟩, ⟨13, 1, false⟩, ⟨14, 1, false⟩, ⟨15, 1, false⟩, ⟨16, 1, false⟩, ⟨17, 1, false⟩], eqk := true }),
  (24, { size := 1, zero := [.es], elem := some .cop }),
  (25, { size := 1, zero := [.nilp], isPtr := true }),
  (27, { size := 1, zero := [.es], elem := some .event }),
  (29, { size := 5, agg := true, zero := [.pl (.int .i64 0), .pl (.int .i64 0), .pl (.int .i64 0), .pl (.int .i64 0), .pl (.int .i64 0)], flds := [⟨0, 1, false⟩, ⟨1, 1, false⟩, ⟨2, 1, false⟩, ⟨3, 1, false⟩, ⟨4, 1, false⟩], eqk := true }),
  (30, { size := 5, agg := true, zero := [.pl (.int .i64 0), .pl (.int .i64 0), .pl (.int .i64 0), .pl (.int .i64 0), .pl (.int .i64 0)], flds := [⟨0, 1, false⟩, ⟨1, 1, false⟩, ⟨2, 1, false⟩, ⟨3, 1, false⟩, ⟨4, 1, false⟩], eqk := true }),
  (31, { size := 4, agg := true, zero := [.pl (.int .i64 0), .pl (.int .i64 0), .pl (.int .i64 0), .pl (.int .i64 0)], flds := [⟨0, 1, false⟩, ⟨1, 1, false⟩, ⟨2, 1, false⟩, ⟨3, 1, false⟩], eqk := true }),
  (32, { size := 4, agg := true, zero := [.pl (.int .i64 0), .pl (.int .i64 0), .pl (.int .i64 0), .pl (.int .i64 0)], flds := [⟨0, 1, false⟩, ⟨1, 1, false⟩, ⟨2, 1, false⟩, ⟨3, 1, false⟩], eqk := true }),
  (33, { size := 12, agg := true, zero := [.pl (.int .i64 0), .pl (.int .i64 0), .pl (.int .i64 0), .pl (.int .i64 0), .pl (.int .i64 0), .pl (.int .i64 0), .pl (.int .i64 0), .pl (.int .i64 0), .pl (.int .i64 0), .pl (.int .i64 0), .pl (.int .i64 0), .pl (.int .i64 0)], flds := [⟨0, 1, false⟩, ⟨1, 1, false⟩, ⟨2, 1, false⟩, ⟨3, 5, true⟩, ⟨8, 4, true⟩], eqk := true }),
  (34, { size := 12, agg := true, zero := [.pl (.int .i64 0), .pl (.int .i64 0), .pl (.int .i64 0), .pl (.int .i64 0), .pl (.int .i64 0), .pl (.int .i64 0), .pl (.int .i64 0), .pl (.int .i64 0), .pl (.int .i64 0), .pl (.int .i64 0), .pl (.int .i64 0), .pl (.int .i64 0)], flds := [⟨0, 1, false⟩, ⟨1, 1, false⟩, ⟨2, 1, false⟩, ⟨3, 5, true⟩, ⟨8, 4, true⟩], eqk := true }),
  (35, { size := 1, zero := [.es], elem := some .wait }),
  (38, { size := 1, zero := [.es], elem := some .lease }),
  (40, { size := 1, zero := [.es], elem := some .ask }),
  (43, { size := 10, agg := true, zero := [.pl (.int .i64 0), .pl (.int .i64 0), .pl (.int .i64 0), .pl (.int .i64 0), .pl (.int .i64 0), .pl (.int .i64 0), .pl (.int .i64 0), .pl (.int .i64 0), .pl (.int .i64 0), .pl (.int .i64 0)], flds := [⟨0, 5, true⟩, ⟨5, 1, false⟩, ⟨6, 1, false⟩, ⟨7, 1, false⟩, ⟨8, 1, false⟩, ⟨9, 1, false⟩], eqk := true }),
  (44, { size := 10, agg := true, zero := [.pl (.int .i64 0), .pl (.int .i64 0), .pl (.int .i64 0), .pl (.int .i64 0), .pl (.int .i64 0), .pl (.int .i64 0), .pl (.int .i64 0), .pl (.int .i64 0), .pl (.int .i64 0), .pl (.int .i64 0)], flds := [⟨0, 5, true⟩, ⟨5, 1, false⟩, ⟨6, 1, false⟩, ⟨7, 1, false⟩, ⟨8, 1, false⟩, ⟨9, 1, false⟩], eqk := true }),
  (49, { size := 1, zero := [.es], elem := some .gop }),
  (50, { size := 1, zero := [.nilp], isPtr := true }),
  (52, { size := 1, zero := [.nilp], isPtr := true }),
  (54, { size := 4, agg := true, zero := [.pl (.int .i64 0), .pl (.int .i64 0), .pl (.int .i64 0), .pl (.bool false)], flds := [⟨0, 1, false⟩, ⟨1, 1, false⟩, ⟨2, 1, false⟩, ⟨3, 1, false⟩], eqk := true }),
  (55, { size := 4, agg := true, zero := [.pl (.int .i64 0), .pl (.int .i64 0), .pl (.int .i64 0), .pl (.bool false)], flds := [⟨0, 1, false⟩, ⟨1, 1, false⟩, ⟨2, 1, false⟩, ⟨3, 1, false⟩], eqk := true }),
  (59, { size := 1, zero := [.pl (.int .i64 0)], ik := some .i64 }),
  (71, { size := 5, agg := true, zero := [.pl (.int .i64 0), .pl (.int .i64 0), .pl (.int .i64 0), .pl (.int .i64 0), .pl (.int .i64 0)], flds := [⟨0, 1, false⟩, ⟨1, 4, true⟩], eqk := true }),
  (72, { size := 5, agg := true, zero := [.pl (.int .i64 0), .pl (.int .i64 0), .pl (.int .i64 0), .pl (.int .i64 0), .pl (.int .i64 0)], flds := [⟨0, 1, false⟩, ⟨1, 4, true⟩], eqk := true }),
  (73, { size := 1, zero := [.nilp], isPtr := true }),
  (79, { size := 1, zero := [.es], elem := some .car }),
  (81, { size := 2, agg := true, zero := [.pl (.int .i64 0), .pl (.int .i64 0)], flds := [⟨0, 1, false⟩, ⟨1, 1, false⟩], eqk := true }),
  (82, { size := 2, agg := true, zero := [.pl (.int .i64 0), .pl (.int .i64 0)], flds := [⟨0, 1, false⟩, ⟨1, 1, false⟩], eqk := true }),
  (83, { size := 1, zero := [.pl (.int .u64 0)], ik := some .u64 }),
  (84, { size := 3, agg := true, zero := [.pl (.int .u64 0), .pl (.int .u64 0), .pl (.int .u64 0)], flds := [⟨0, 1, false⟩, ⟨1, 1, false⟩, ⟨2, 1, false⟩], eqk := true }),
  (85, { size := 3, agg := true, zero := [.pl (.int .u64 0), .pl (.int .u64 0), .pl (.int .u64 0)], flds := [⟨0, 1, false⟩, ⟨1, 1, false⟩, ⟨2, 1, false⟩], eqk := true }),
  (86, { size := 15, agg := true, zero := [.pl (.int .i64 0), .pl (.int .i64 0), .pl (.int .i64 0), .pl (.int .i64 0), .pl (.int .i64 0), .pl (.int .i64 0), .pl (.int .i64 0), .pl (.bool false), .pl (.bool false), .pl (.int .i64 0), .pl (.int .i64 0), .pl (.bool false), .pl (.int .u64 0), .pl (.int .u64 0), .pl (.int .u64 0)], flds := [⟨0, 2, true⟩, ⟨2, 1, false⟩, ⟨3, 1, false⟩, ⟨4, 1, false⟩, ⟨5, 1, false⟩, ⟨6, 1, false⟩, ⟨7, 1, false⟩, ⟨8, 1, false⟩, ⟨9, 1, false⟩, ⟨10, 1, false⟩, ⟨11, 1, false⟩, ⟨12, 3, true⟩], eqk := true }),
  (87, { size := 15, agg := true, zero := [.pl (.int .i64 0), .pl (.int .i64 0), .pl (.int .i64 0), .pl (.int .i64 0), .pl (.int .i64 0), .pl (.int .i64 0), .pl (.int .i64 0), .pl (.bool false), .pl (.bool false), .pl (.int .i64 0), .pl (.int .i64 0), .pl (.bool false), .pl (.int .u64 0), .pl (.int .u64 0), .pl (.int .u64 0)], flds := [⟨0, 2, true⟩, ⟨2, 1, false⟩, ⟨3, 1, false⟩, ⟨4, 1, false⟩, ⟨5, 1, false⟩, ⟨6, 1, false⟩, ⟨7, 1, false⟩, ⟨8, 1, false⟩, ⟨9, 1, false⟩, ⟨10, 1, false⟩, ⟨11, 1, false⟩, ⟨12, 3, true⟩], eqk := true }),
  (90, { size := 1, zero := [.nilp], isPtr := true }),
  (92, { size := 1, zero := [.nilp], isPtr := true }),
  (94, { size := 22, agg := true, zero := [.pl (.int .i64 0), .pl (.int .i64 0), .pl (.int .i64 0), .pl (.int .i64 0), .pl (.int .i64 0), .pl (.int .i64 0), .pl (.int .i64 0), .pl (.int .i64 0), .pl (.int .i64 0), .pl (.int .i64 0), .pl (.int .i64 0), .pl (.int .i64 0), .pl (.int .i64 0), .pl (.int .i64 0), .pl (.int .i64 0), .pl (.int .i64 0), .pl (.int .i64 0), .pl (.int .i64 0), .nilp, .nilp, .nilp, .es], flds := [⟨0, 18, true⟩, ⟨18, 1, false⟩, ⟨19, 1, false⟩, ⟨20, 1, false⟩, ⟨21, 1, false⟩] }),
  (95, { size := 22, agg := true, zero := [.pl (.int .i64 0), .pl (.int .i64 0), .pl (.int .i64 0), .pl (.int .i64 0), .pl (.int .i64 0), .pl (.int .i64 0), .pl (.int .i64 0), .pl (.int .i64 0), .pl (.int .i64 0), .pl (.int .i64 0), .pl (.int .i64 0), .pl (.int .i64 0), .pl (.int .i64 0), .pl (.int .i64 0), .pl (.int .i64 0), .pl (.int .i64 0), .pl (.int .i64 0), .pl (.int .i64 0), .nilp, .nilp, .nilp, .es], flds := [⟨0, 18, true⟩, ⟨18, 1, false⟩, ⟨19, 1, false⟩, ⟨20, 1, false⟩, ⟨21, 1, false⟩] }),
  (99, { size := 1, zero := [.es], elem := some .msg }),
  (108, { size := 21, agg := true, zero := [.pl (.int .i64 0), .pl (.int .i64 0), .pl (.int .i64 0), .pl (.int .i64 0), .pl (.int .i64 0), .pl (.int .i64 0), .pl (.int .i64 0), .pl (.int .i64 0), .pl (.int .i64 0), .pl (.int .i64 0), .pl (.int .i64 0), .pl (.int .i64 0), .pl (.int .i64 0), .pl (.int .i64 0), .pl (.int .i64 0), .pl (.int .i64 0), .pl (.int .i64 0), .pl (.int .i64 0), .es, .es, .pl (.int .i64 0)], flds := [⟨0, 18, true⟩, ⟨18, 1, false⟩, ⟨19, 1, false⟩, ⟨20, 1, false⟩] }),
  (109, { size := 21, agg := true, zero := [.pl (.int .i64 0), .pl (.int .i64 0), .pl (.int .i64 0), .pl (.int .i64 0), .pl (.int .i64 0), .pl (.int .i64 0), .pl (.int .i64 0), .pl (.int .i64 0), .pl (.int .i64 0), .pl (.int .i64 0), .pl (.int .i64 0), .pl (.int .i64 0), .pl (.int .i64 0), .pl (.int .i64 0), .pl (.int .i64 0), .pl (.int .i64 0), .pl (.int .i64 0), .pl (.int .i64 0), .es, .es, .pl (.int .i64 0)], flds := [⟨0, 18, true⟩, ⟨18, 1, false⟩, ⟨19, 1, false⟩, ⟨20, 1, false⟩] }),
  (110, { size := 21, agg := true, zero := [.pl (.int .i64 0), .pl (.int .i64 0), .pl (.int .i64 0), .pl (.int .i64 0), .pl (.int .i64 0), .pl (.int .i64 0), .pl (.int .i64 0), .pl (.int .i64 0), .pl (.int .i64 0), .pl (.int .i64 0), .pl (.int .i64 0), .pl (.int .i64 0), .pl (.int .i64 0), .pl (.int .i64 0), .pl (.int .i64 0), .pl (.int .i64 0), .pl (.int .i64 0), .pl (.int .i64 0), .es, .es, .pl (.int .i64 0)], flds := [⟨0, 18, true⟩, ⟨18, 1, false⟩, ⟨19, 1, false⟩, ⟨20, 1, false⟩] }),
  (111, { size := 21, agg := true, zero := [.pl (.int .i64 0), .pl (.int .i64 0), .pl (.int .i64 0), .pl (.int .i64 0), .pl (.int .i64 0), .pl (.int .i64 0), .pl (.int .i64 0), .pl (.int .i64 0), .pl (.int .i64 0), .pl (.int .i64 0), .pl (.int .i64 0), .pl (.int .i64 0), .pl (.int .i64 0), .pl (.int .i64 0), .pl (.int .i64 0), .pl (.int .i64 0), .pl (.int .i64 0), .pl (.int .i64 0), .es, .es, .pl (.int .i64 0)], flds := [⟨0, 18, true⟩, ⟨18, 1, false⟩, ⟨19, 1, false⟩, ⟨20, 1, false⟩] }),
  (112, { size := 2, agg := true, zero := [.pl (.int .i64 0), .pl (.int .i64 0)], flds := [⟨0, 1, false⟩, ⟨1, 1, false⟩], eqk := true }),
  (113, { size := 2, agg := true, zero := [.pl (.int .i64 0), .pl (.int .i64 0)], flds := [⟨0, 1, false⟩, ⟨1, 1, false⟩], eqk := true }),
  (114, { size := 4, agg := true, zero := [.pl (.int .i64 0), .pl (.int .i64 0), .pl (.int .i64 0), .pl (.int .i64 0)], flds := [⟨0, 2, true⟩, ⟨2, 1, false⟩, ⟨3, 1, false⟩], eqk := true }),
  (115, { size := 4, agg := true, zero := [.pl (.int .i64 0), .pl (.int .i64 0), .pl (.int .i64 0), .pl (.int .i64 0)], flds := [⟨0, 2, true⟩, ⟨2, 1, false⟩, ⟨3, 1, false⟩], eqk := true }),
  (129, { size := 22, agg := true, zero := [.pl (.int .i64 0), .pl (.int .i64 0), .pl (.int .i64 0), .pl (.int .i64 0), .pl (.int .i64 0), .pl (.int .i64 0), .pl (.int .i64 0), .pl (.int .i64 0), .pl (.int .i64 0), .pl (.int .i64 0), .pl (.int .i64 0), .pl (.int .i64 0), .pl (.int .i64 0), .pl (.int .i64 0), .pl (.int .i64 0), .pl (.int .i64 0), .pl (.int .i64 0), .pl (.int .i64 0), .nilp, .es, .es, .es], flds := [⟨0, 18, true⟩, ⟨18, 1, false⟩, ⟨19, 1, false⟩, ⟨20, 1, false⟩, ⟨21, 1, false⟩] }),
  (130, { size := 22, agg := true, zero := [.pl (.int .i64 0), .pl (.int .i64 0), .pl (.int .i64 0), .pl (.int .i64 0), .pl (.int .i64 0), .pl (.int .i64 0), .pl (.int .i64 0), .pl (.int .i64 0), .pl (.int .i64 0), .pl (.int .i64 0), .pl (.int .i64 0), .pl (.int .i64 0), .pl (.int .i64 0), .pl (.int .i64 0), .pl (.int .i64 0), .pl (.int .i64 0), .pl (.int .i64 0), .pl (.int .i64 0), .nilp, .es, .es, .es], flds := [⟨0, 18, true⟩, ⟨18, 1, false⟩, ⟨19, 1, false⟩, ⟨20, 1, false⟩, ⟨21, 1, false⟩] }),
  (133, { size := 2, agg := true, zero := [.es, .pl (.int .i64 0)], flds := [⟨0, 1, false⟩, ⟨1, 1, false⟩] }),
  (134, { size := 2, agg := true, zero := [.es, .pl (.int .i64 0)], flds := [⟨0, 1, false⟩, ⟨1, 1, false⟩] }),
  (135, { size := 19, agg := true, zero := [.pl (.int .i64 0), .pl (.int .i64 0), .pl (.int .i64 0), .pl (.int .i64 0), .pl (.int .i64 0), .pl (.int .i64 0), .pl (.int .i64 0), .pl (.int .i64 0), .pl (.int .i64 0), .pl (.int .i64 0), .pl (.int .i64 0), .pl (.int .i64 0), .pl (.int .i64 0), .pl (.int .i64 0), .pl (.int .i64 0), .pl (.int .i64 0), .pl (.int .i64 0), .pl (.int .i64 0), .es], flds := [⟨0, 18, true⟩, ⟨18, 1, false⟩] }),
  (136, { size := 19, agg := true, zero := [.pl (.int .i64 0), .pl (.int .i64 0), .pl (.int .i64 0), .pl (.int .i64 0), .pl (.int .i64 0), .pl (.int .i64 0), .pl (.int .i64 0), .pl (.int .i64 0), .pl (.int .i64 0), .pl (.int .i64 0), .pl (.int .i64 0), .pl (.int .i64 0), .pl (.int .i64 0), .pl (.int .i64 0), .pl (.int .i64 0), .pl (.int .i64 0), .pl (.int .i64 0), .pl (.int .i64 0), .es], flds := [⟨0, 18, true⟩, ⟨18, 1, false⟩] }),
  (138, { size := 1, zero := [.nilp], isPtr := true }),
  (148, { size := 12, agg := true, zero := [.pl (.int .i64 0), .pl (.int .i64 0), .pl (.int .i64 0), .pl (.int .i64 0), .pl (.int .i64 0), .pl (.int .i64 0), .pl (.int .i64 0), .pl (.int .i64 0), .pl (.int .i64 0), .pl (.int .i64 0), .es, .pl (.bool false)], flds := [⟨0, 10, true⟩, ⟨10, 1, false⟩, ⟨11, 1, false⟩] }),
  (149, { size := 12, agg := true, zero := [.pl (.int .i64 0), .pl (.int .i64 0), .pl (.int .i64 0), .pl (.int .i64 0), .pl (.int .i64 0), .pl (.int .i64 0), .pl (.int .i64 0), .pl (.int .i64 0), .pl (.int .i64 0), .pl (.int .i64 0), .es, .pl (.bool false)], flds := [⟨0, 10, true⟩, ⟨10, 1, false⟩, ⟨11, 1, false⟩] }),
  (157, { size := 1, zero := [.es], elem := some .int }),
  (161, { size := 1, zero := [.pl (.int .u64 0)], ik := some .u64 }),
  (166, { size := 3, agg := true, zero := [.pl (.int .i64 0), .pl (.bool false), .pl (.bool false)], flds := [⟨0, 1, false⟩, ⟨1, 1, false⟩, ⟨2, 1, false⟩], eqk := true }),
  (167, { size := 3, agg := true, zero := [.pl (.int .i64 0), .pl (.bool false), .pl (.bool false)], flds := [⟨0, 1, false⟩, ⟨1, 1, false⟩, ⟨2, 1, false⟩], eqk := true }),
  (168, { size := 21, agg := true, zero := [.pl (.int .i64 0), .pl (.int .i64 0), .pl (.int .i64 0), .pl (.int .i64 0), .pl (.int .i64 0), .pl (.int .i64 0), .pl (.int .i64 0), .pl (.bool false), .pl (.bool false), .pl (.int .i64 0), .pl (.int .i64 0), .pl (.bool false), .pl (.int .u64 0), .pl (.int .u64 0), .pl (.int .u64 0), .pl (.int .i64 0), .pl (.bool false), .pl (.bool false), .pl (.int .i64 0), .pl (.int .i64 0), .pl (.bool false)], flds := [⟨0, 15, true⟩, ⟨15, 3, true⟩, ⟨18, 2, true⟩, ⟨20, 1, false⟩], eqk := true }),
  (169, { size := 21, agg := true, zero := [.pl (.int .i64 0), .pl (.int .i64 0), .pl (.int .i64 0), .pl (.int .i64 0), .pl (.int .i64 0), .pl (.int .i64 0), .pl (.int .i64 0), .pl (.bool false), .pl (.bool false), .pl (.int .i64 0), .pl (.int .i64 0), .pl (.bool false), .pl (.int .u64 0), .pl (.int .u64 0), .pl (.int .u64 0), .pl (.int .i64 0), .pl (.bool false), .pl (.bool false), .pl (.int .i64 0), .pl (.int .i64 0), .pl (.bool false)], flds := [⟨0, 15, true⟩, ⟨15, 3, true⟩, ⟨18, 2, true⟩, ⟨20, 1, false⟩], eqk := true }),
  (187, { size := 1, zero := [.nilp], isPtr := true }),
  (194, { size := 1, zero := [.pl (.int .u32 0)], ik := some .u32 }),
  (199, { size := 1, zero := [.nilp], isPtr := true }),
  (201, { size := 1, zero := [.nilp], isPtr := true }),
  (202, { size := 1, zero := [.nilp], isPtr := true }),
  (213, { size := 4, agg := true, zero := [.pl (.int .u64 0), .pl (.int .u64 0), .pl (.int .u64 0), .pl (.int .i64 0)], flds := [⟨0, 3, true⟩, ⟨3, 1, false⟩], eqk := true }),
  (214, { size := 4, agg := true, zero := [.pl (.int .u64 0), .pl (.int .u64 0), .pl (.int .u64 0), .pl (.int .i64 0)], flds := [⟨0, 3, true⟩, ⟨3, 1, false⟩], eqk := true }),
  (226, { size := 1, zero := [.nilp], isPtr := true })]
abbrev tys : Tys := lookTy tysL
theorem tys_ok : ∀ W0, Agree ⟨Tryz.prog, W0, eid⟩ tys := agree_of (by kernel_rfl)
end Go.Proofs.YtjgmkpidiaojkaaGreat
