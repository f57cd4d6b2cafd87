/- Calls of plain values, each computed by the kernel. -/
import Derived.Test.YtlafmapnfbefiaaGreatDoorPCoverA
namespace Go.Pg
open Go.Proofs
theorem chk3 : valOf (execTab ovD TAB 100000 6 [.string (bs [109, 97, 116, 99, 104, 32, 120, 32, 119, 105, 116, 104, 32, 49, 32, 45, 62, 32, 49, 32, 124, 32, 121, 32, 45, 62, 32, 50, 32, 101, 110, 100])] (startH (tabOld tabsD))) = some (.tuple #[.int .i64 0, .int .i64 0]) := by kernel_rfl
theorem chk4 : valOf (execTab ovD TAB 100000 6 [.string (bs [109, 97, 116, 99, 104, 32, 120, 32, 119, 105, 116, 104, 32, 40, 41, 32, 45, 62, 32, 49, 32, 101, 110, 100])] (startH (tabOld tabsD))) = some (.tuple #[.int .i64 0, .int .i64 0]) := by kernel_rfl
theorem chk5 : valOf (execTab ovD TAB 100000 6 [.string (bs [116, 121, 112, 101, 32, 116, 32, 61, 32, 65, 32, 124, 32, 66, 32, 111, 102, 32, 116, 44, 32, 98, 111, 111, 108, 32, 105, 110, 32, 109, 97, 116, 99, 104, 32, 120, 32, 119, 105, 116, 104, 32, 65, 32, 45, 62, 32, 49, 32, 124, 32, 66, 32, 40, 65, 44, 32, 116, 114, 117, 101, 41, 32, 45, 62, 32, 50, 32, 124, 32, 66, 32, 40, 95, 44, 32, 102, 97, 108, 115, 101, 41, 32, 45, 62, 32, 51, 32, 124, 32, 66, 32, 40, 66, 32, 40, 95, 44, 32, 95, 41, 44, 32, 116, 114, 117, 101, 41, 32, 45, 62, 32, 52, 32, 101, 110, 100])] (startH (tabOld tabsD))) = some (.tuple #[.int .i64 0, .int .i64 0]) := by kernel_rfl
end Go.Pg
