/- Structs of plain cells, read back. Printed by program (gen_of.py). -/
import Derived.Test.YtijcloeapcapiaaFw22
set_option linter.unusedVariables false
namespace Lw
open Go
def Config.of : List Cell → Option Config
  | [.pl (.int .i64 a0), .pl (.int .i64 a1), .pl (.int .i64 a2), .pl (.int .i64 a3), .pl (.int .i64 a4), .pl (.int .i64 a5), .pl (.int .i64 a6), .pl (.int .i64 a7), .pl (.int .i64 a8), .pl (.int .i64 a9), .pl (.int .i64 a10), .pl (.int .i64 a11), .pl (.int .i64 a12), .pl (.int .i64 a13), .pl (.int .i64 a14), .pl (.int .i64 a15), .pl (.int .i64 a16), .pl (.int .i64 a17)] => some ⟨a0, a1, a2, a3, a4, a5, a6, a7, a8, a9, a10, a11, a12, a13, a14, a15, a16, a17⟩
  | _ => none
theorem Config.of_eq {cs : List Cell} {x : Config} (h : Config.of cs = some x) : cs = x.enc.map .pl := by
  unfold Config.of at h
  split at h
  · cases h; rfl
  · cases h
def Door.of : List Cell → Option Door
  | [.pl (.int .i64 a0), .pl (.int .i64 a1)] => some ⟨a0, a1⟩
  | _ => none
theorem Door.of_eq {cs : List Cell} {x : Door} (h : Door.of cs = some x) : cs = x.enc.map .pl := by
  unfold Door.of at h
  split at h
  · cases h; rfl
  · cases h
def Stops.of : List Cell → Option Stops
  | [.pl (.int .u64 a0), .pl (.int .u64 a1), .pl (.int .u64 a2)] => some ⟨a0, a1, a2⟩
  | _ => none
theorem Stops.of_eq {cs : List Cell} {x : Stops} (h : Stops.of cs = some x) : cs = x.enc.map .pl := by
  unfold Stops.of at h
  split at h
  · cases h; rfl
  · cases h
def Call.of : List Cell → Option Call
  | [.pl (.int .i64 a0), .pl (.int .i64 a1)] => some ⟨a0, a1⟩
  | _ => none
theorem Call.of_eq {cs : List Cell} {x : Call} (h : Call.of cs = some x) : cs = x.enc.map .pl := by
  unfold Call.of at h
  split at h
  · cases h; rfl
  · cases h
def Wait.of : List Cell → Option Wait
  | [.pl (.int .i64 a0), .pl (.int .i64 a1), .pl (.int .i64 a2), .pl (.int .i64 a3)] => some ⟨a0, a1, a2, a3⟩
  | _ => none
theorem Wait.of_eq {cs : List Cell} {x : Wait} (h : Wait.of cs = some x) : cs = x.enc.map .pl := by
  unfold Wait.of at h
  split at h
  · cases h; rfl
  · cases h
def Ask.of : List Cell → Option Ask
  | [.pl (.int .i64 a0), .pl (.int .i64 a1), .pl (.int .i64 a2), .pl (.int .i64 a3), .pl (.int .i64 a4)] => some ⟨a0, a1, a2, a3, a4⟩
  | _ => none
theorem Ask.of_eq {cs : List Cell} {x : Ask} (h : Ask.of cs = some x) : cs = x.enc.map .pl := by
  unfold Ask.of at h
  split at h
  · cases h; rfl
  · cases h
def Lease.of : List Cell → Option Lease
  | [.pl (.int .i64 a0), .pl (.int .i64 a1), .pl (.int .i64 a2), .pl (.int .i64 a3), .pl (.int .i64 a4), .pl (.int .i64 a5), .pl (.int .i64 a6), .pl (.int .i64 a7), .pl (.int .i64 a8), .pl (.int .i64 a9)] => some ⟨⟨a0, a1, a2, a3, a4⟩, a5, a6, a7, a8, a9⟩
  | _ => none
theorem Lease.of_eq {cs : List Cell} {x : Lease} (h : Lease.of cs = some x) : cs = x.enc.map .pl := by
  unfold Lease.of at h
  split at h
  · cases h; rfl
  · cases h
def Msg.of : List Cell → Option Msg
  | [.pl (.int .i64 a0), .pl (.int .i64 a1), .pl (.int .i64 a2), .pl (.int .i64 a3)] => some ⟨a0, a1, a2, a3⟩
  | _ => none
theorem Msg.of_eq {cs : List Cell} {x : Msg} (h : Msg.of cs = some x) : cs = x.enc.map .pl := by
  unfold Msg.of at h
  split at h
  · cases h; rfl
  · cases h
def Event.of : List Cell → Option Event
  | [.pl (.int .i64 a0), .pl (.int .i64 a1), .pl (.int .i64 a2), .pl (.int .i64 a3), .pl (.int .i64 a4)] => some ⟨a0, ⟨a1, a2, a3, a4⟩⟩
  | _ => none
theorem Event.of_eq {cs : List Cell} {x : Event} (h : Event.of cs = some x) : cs = x.enc.map .pl := by
  unfold Event.of at h
  split at h
  · cases h; rfl
  · cases h
def Car.of : List Cell → Option Car
  | [.pl (.int .i64 a0), .pl (.int .i64 a1), .pl (.int .i64 a2), .pl (.int .i64 a3), .pl (.int .i64 a4), .pl (.int .i64 a5), .pl (.int .i64 a6), .pl (.bool a7), .pl (.bool a8), .pl (.int .i64 a9), .pl (.int .i64 a10), .pl (.bool a11), .pl (.int .u64 a12), .pl (.int .u64 a13), .pl (.int .u64 a14)] => some ⟨⟨a0, a1⟩, a2, a3, a4, a5, a6, a7, a8, a9, a10, a11, ⟨a12, a13, a14⟩⟩
  | _ => none
theorem Car.of_eq {cs : List Cell} {x : Car} (h : Car.of cs = some x) : cs = x.enc.map .pl := by
  unfold Car.of at h
  split at h
  · cases h; rfl
  · cases h
def Cmd.of : List Cell → Option Cmd
  | [.pl (.int .i64 a0), .pl (.bool a1), .pl (.bool a2)] => some ⟨a0, a1, a2⟩
  | _ => none
theorem Cmd.of_eq {cs : List Cell} {x : Cmd} (h : Cmd.of cs = some x) : cs = x.enc.map .pl := by
  unfold Cmd.of at h
  split at h
  · cases h; rfl
  · cases h
def GOp.of : List Cell → Option GOp
  | [.pl (.int .i64 a0), .pl (.int .i64 a1), .pl (.int .i64 a2), .pl (.bool a3)] => some ⟨a0, a1, a2, a3⟩
  | _ => none
theorem GOp.of_eq {cs : List Cell} {x : GOp} (h : GOp.of cs = some x) : cs = x.enc.map .pl := by
  unfold GOp.of at h
  split at h
  · cases h; rfl
  · cases h
def COp.of : List Cell → Option COp
  | [.pl (.int .i64 a0), .pl (.int .i64 a1), .pl (.int .i64 a2), .pl (.int .i64 a3), .pl (.int .i64 a4), .pl (.int .i64 a5), .pl (.int .i64 a6), .pl (.int .i64 a7), .pl (.int .i64 a8), .pl (.int .i64 a9), .pl (.int .i64 a10), .pl (.int .i64 a11)] => some ⟨a0, a1, a2, ⟨a3, a4, a5, a6, a7⟩, ⟨a8, a9, a10, a11⟩⟩
  | _ => none
theorem COp.of_eq {cs : List Cell} {x : COp} (h : COp.of cs = some x) : cs = x.enc.map .pl := by
  unfold COp.of at h
  split at h
  · cases h; rfl
  · cases h
def LOp.of : List Cell → Option LOp
  | [.pl (.int .i64 a0), .pl (.int .i64 a1), .pl (.int .i64 a2), .pl (.int .i64 a3), .pl (.int .i64 a4), .pl (.int .i64 a5), .pl (.int .i64 a6), .pl (.int .i64 a7), .pl (.int .i64 a8), .pl (.int .i64 a9), .pl (.int .i64 a10)] => some ⟨a0, ⟨⟨a1, a2, a3, a4, a5⟩, a6, a7, a8, a9, a10⟩⟩
  | _ => none
theorem LOp.of_eq {cs : List Cell} {x : LOp} (h : LOp.of cs = some x) : cs = x.enc.map .pl := by
  unfold LOp.of at h
  split at h
  · cases h; rfl
  · cases h
end Lw
