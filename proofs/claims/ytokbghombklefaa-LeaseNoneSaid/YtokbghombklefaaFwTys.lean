/- The types of this seat's program, for the abstract machine; the kernel holds them against the program's own. Printed by program (tys.py). -/
import Derived.Test.YtokbghombklefaaProg
import Derived.Test.YtokbghombklefaaChecked
import Derived.Test.YtokbghombklefaaFw21
import Derived.KernelRfl
namespace Go.Proofs.Ytokbghombklefaa
open Lw
def eid : RTy → TypeId
  | .lease => 25
  | _ => 0
def tysL : List (Nat × TI) := [
  (2, { size := 1, zero := [.pl (.int .i64 0)], ik := some .i64 }),
  (3, { size := 1, zero := [.pl (.int .i64 0)], ik := some .i64 }),
  (4, { size := 1, zero := [.pl (.bool false)], isBool := true }),
  (5, { size := 1, zero := [.pl (.int .u8 0)], ik := some .u8 }),
  (9, { size := 1, zero := [.pl (.str ByteArray.empty)] }),
  (21, { size := 1, zero := [.pl (.int .i32 0)], ik := some .i32 }),
  (22, { size := 5, agg := true, zero := [.pl (.int .i64 0), .pl (.int .i64 0), .pl (.int .i64 0), .pl (.int .i64 0), .pl (.int .i64 0)], flds := [⟨0, 1, false⟩, ⟨1, 1, false⟩, ⟨2, 1, false⟩, ⟨3, 1, false⟩, ⟨4, 1, false⟩], eqk := true }),
  (23, { size := 5, agg := true, zero := [.pl (.int .i64 0), .pl (.int .i64 0), .pl (.int .i64 0), .pl (.int .i64 0), .pl (.int .i64 0)], flds := [⟨0, 1, false⟩, ⟨1, 1, false⟩, ⟨2, 1, false⟩, ⟨3, 1, false⟩, ⟨4, 1, false⟩], eqk := true }),
  (24, { size := 10, agg := true, zero := [.pl (.int .i64 0), .pl (.int .i64 0), .pl (.int .i64 0), .pl (.int .i64 0), .pl (.int .i64 0), .pl (.int .i64 0), .pl (.int .i64 0), .pl (.int .i64 0), .pl (.int .i64 0), .pl (.int .i64 0)], flds := [⟨0, 5, true⟩, ⟨5, 1, false⟩, ⟨6, 1, false⟩, ⟨7, 1, false⟩, ⟨8, 1, false⟩, ⟨9, 1, false⟩], eqk := true }),
  (25, { size := 10, agg := true, zero := [.pl (.int .i64 0), .pl (.int .i64 0), .pl (.int .i64 0), .pl (.int .i64 0), .pl (.int .i64 0), .pl (.int .i64 0), .pl (.int .i64 0), .pl (.int .i64 0), .pl (.int .i64 0), .pl (.int .i64 0)], flds := [⟨0, 5, true⟩, ⟨5, 1, false⟩, ⟨6, 1, false⟩, ⟨7, 1, false⟩, ⟨8, 1, false⟩, ⟨9, 1, false⟩], eqk := true }),
  (26, { size := 1, zero := [.nilp], isPtr := true }),
  (30, { size := 18, agg := true, zero := [.pl (.int .i64 0), .pl (.int .i64 0), .pl (.int .i64 0), .pl (.int .i64 0), .pl (.int .i64 0), .pl (.int .i64 0), .pl (.int .i64 0), .pl (.int .i64 0), .pl (.int .i64 0), .pl (.int .i64 0), .pl (.int .i64 0), .pl (.int .i64 0), .pl (.int .i64 0), .pl (.int .i64 0), .pl (.int .i64 0), .pl (.int .i64 0), .pl (.int .i64 0), .pl (.int .i64 0)], flds := [⟨0, 1, false⟩, ⟨1, 1, false⟩, ⟨2, 1, false⟩, ⟨3, 1, false⟩, ⟨4, 1, false⟩, ⟨5, 1, false⟩, ⟨6, 1, false⟩, ⟨7, 1, false⟩, ⟨8, 1, false⟩, ⟨9, 1, false⟩, ⟨10, 1, false⟩, ⟨11, 1, false⟩, ⟨12, 1, false⟩, ⟨13, 1, false⟩, ⟨14, 1, false⟩, ⟨15, 1, false⟩, ⟨16, 1, false⟩, ⟨17, 1, false⟩], eqk := true }),
  (31, { size := 18, agg := true, zero := [.pl (.int .i64 0), .pl (.int .i64 0), .pl (.int .i64 0), .pl (.int .i64 0), .pl (.int .i64 0), .pl (.int .i64 0), .pl (.int .i64 0), .pl (.int .i64 0), .pl (.int .i64 0), .pl (.int .i64 0), .pl (.int .i64 0), .pl (.int .i64 0), .pl (.int .i64 0), .pl (.int .i64 0), .pl (.int .i64 0), .pl (.int .i64 0), .pl (.int .i64 0), .pl (.int .i64 0)], flds := [⟨0, 1, false⟩, ⟨1, 1, false⟩, ⟨2, 1, false⟩, ⟨3, 1, false⟩, ⟨4, 1, false⟩, ⟨5, 1, false⟩, ⟨6, 1, false⟩, ⟨7, 1, false⟩, ⟨8, 1, false⟩, ⟨9, 1, false⟩, ⟨10, 1, false⟩, ⟨11, 1, false⟩, ⟨12, 1, false⟩, ⟨13, 1, false⟩, ⟨14, 1, false⟩, ⟨15, 1, false⟩, ⟨16, 1, false⟩, ⟨17, 1, false⟩], eqk := true }),
  (33, { size := 1, zero := [.pl (.int .i64 0)], ik := some .i64 }),
  (36, { size := 1, zero := [.es], elem := some .lease }),
  (42, { size := 19, agg := true, zero := [.pl (.int .i64 0), .pl (.int .i64 0), .pl (.int .i64 0), .pl (.int .i64 0), .pl (.int .i64 0), .pl (.int .i64 0), .pl (.int .i64 0), .pl (.int .i64 0), .pl (.int .i64 0), .pl (.int .i64 0), .pl (.int .i64 0), .pl (.int .i64 0), .pl (.int .i64 0), .pl (.int .i64 0), .pl (.int .i64 0), .pl (.int .i64 0), .pl (.int .i64 0), .pl (.int .i64 0), .es], flds := [⟨0, 18, true⟩, ⟨18, 1, false⟩] }),
  (43, { size := 19, agg := true, zero := [.pl (.int .i64 0), .pl (.int .i64 0), .pl (.int .i64 0), .pl (.int .i64 0), .pl (.int .i64 0), .pl (.int .i64 0), .pl (.int .i64 0), .pl (.int .i64 0), .pl (.int .i64 0), .pl (.int .i64 0), .pl (.int .i64 0), .pl (.int .i64 0), .pl (.int .i64 0), .pl (.int .i64 0), .pl (.int .i64 0), .pl (.int .i64 0), .pl (.int .i64 0), .pl (.int .i64 0), .es], flds := [⟨0, 18, true⟩, ⟨18, 1, false⟩] }),
  (60, { size := 1, zero := [.pl (.int .u32 0)], ik := some .u32 }),
  (64, { size := 1, zero := [.nilp], isPtr := true })]
abbrev tys : Tys := lookTy tysL
theorem tys_ok : ∀ W0, Agree ⟨Try.prog, W0, eid⟩ tys := agree_of (by kernel_rfl)
end Go.Proofs.Ytokbghombklefaa
