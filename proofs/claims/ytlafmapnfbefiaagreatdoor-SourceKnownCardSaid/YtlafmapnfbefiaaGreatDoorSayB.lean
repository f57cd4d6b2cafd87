/- Runs of fixed texts, each computed by the kernel. -/
import Derived.Test.YtlafmapnfbefiaaGreatDoorSayA
namespace Go.Pg
open Go.Proofs
theorem say3 : valOf (execTab ovD TAB 100000 12 ([.string (bs [40, 102, 117, 110, 32, 120, 32, 45, 62, 32, 102, 117, 110, 32, 121, 32, 45, 62, 32, 120, 32, 45, 32, 121, 41, 32, 53, 32, 51]), .int .i64 1, .int .i64 2] ++ nils) (startH (tabOld tabsD))) = some (.bool true) := by kernel_rfl
theorem say4 : valOf (execTab ovD TAB 100000 12 ([.string (bs [49, 32, 50]), .int .i64 2, .int .i64 0] ++ nils) (startH (tabOld tabsD))) = some (.bool true) := by kernel_rfl
theorem say5 : valOf (execTab ovD TAB 100000 12 ([.string (bs [108, 101, 116, 32, 120, 32, 61, 32, 49, 32, 105, 110, 32, 108, 101, 116, 32, 102, 32, 61, 32, 102, 117, 110, 32, 121, 32, 45, 62, 32, 120, 32, 105, 110, 32, 108, 101, 116, 32, 120, 32, 61, 32, 50, 32, 105, 110, 32, 102, 32, 48]), .int .i64 1, .int .i64 1] ++ nils) (startH (tabOld tabsD))) = some (.bool true) := by kernel_rfl
end Go.Pg
