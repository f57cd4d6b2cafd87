/- Calls of plain values, each computed by the kernel. -/
import Derived.Test.YtlafmapnfbefiaaGreatDoorTCover
import Derived.Test.YtlafmapnfbefiaaGreatDoorRows
namespace Go.Pg
open Go.Proofs
abbrev ov0 : Ov := fun _ => none
abbrev ovD : Ov := fun k => bif Nat.beq k 80 then some (ovPure letterG) else (fun k => bif Nat.beq k 82 then some (ovPure upperG) else (ov0) k) k
noncomputable abbrev tabsD : List (Nat × IntKind × List Int) := [(0, .u8, numsD YtlafmapnfbefiaaGreatDoor.Rows.laid_unicode_properties)]
theorem chk0 : valOf (execTab ovD TAB 100000 6 [.string (bs [109, 97, 116, 99, 104, 32, 120, 32, 119, 105, 116, 104, 32, 116, 114, 117, 101, 32, 45, 62, 32, 49, 32, 124, 32, 95, 32, 45, 62, 32, 50, 32, 101, 110, 100])] (startH (tabOld tabsD))) = some (.tuple #[.int .i64 0, .int .i64 0]) := by kernel_rfl
theorem chk1 : valOf (execTab ovD TAB 100000 6 [.string (bs [109, 97, 116, 99, 104, 32, 120, 32, 119, 105, 116, 104, 32, 95, 32, 45, 62, 32, 49, 32, 124, 32, 116, 114, 117, 101, 32, 45, 62, 32, 50, 32, 101, 110, 100])] (startH (tabOld tabsD))) = some (.tuple #[.int .i64 7, .int .i64 4]) := by kernel_rfl
theorem chk2 : valOf (execTab ovD TAB 100000 6 [.string (bs [109, 97, 116, 99, 104, 32, 120, 32, 119, 105, 116, 104, 32, 49, 32, 45, 62, 32, 49, 32, 124, 32, 50, 32, 45, 62, 32, 50, 32, 101, 110, 100])] (startH (tabOld tabsD))) = some (.tuple #[.int .i64 7, .int .i64 0]) := by kernel_rfl
end Go.Pg
