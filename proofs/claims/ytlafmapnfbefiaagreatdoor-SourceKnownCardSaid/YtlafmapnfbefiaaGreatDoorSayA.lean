/- Runs of fixed texts, each computed by the kernel. -/
import Derived.Test.YtlafmapnfbefiaaGreatDoorTSk
import Derived.Test.YtlafmapnfbefiaaGreatDoorRows
namespace Go.Pg
open Go.Proofs
abbrev ov0 : Ov := fun _ => none
abbrev ovD : Ov := fun k => bif Nat.beq k 80 then some (ovPure letterG) else (fun k => bif Nat.beq k 82 then some (ovPure upperG) else (ov0) k) k
noncomputable abbrev tabsD : List (Nat × IntKind × List Int) := [(0, .u8, numsD YtlafmapnfbefiaaGreatDoor.Rows.laid_unicode_properties)]
/-- Two rows of nothing. -/
abbrev nils : List Value := [.slice none 0 0, .slice none 0 0]

theorem say0 : valOf (execTab ovD TAB 100000 12 ([.string (bs [108, 101, 116, 32, 114, 101, 99, 32, 102, 32, 120, 32, 61, 32, 105, 102, 32, 120, 32, 60, 32, 49, 32, 116, 104, 101, 110, 32, 48, 32, 101, 108, 115, 101, 32, 120, 32, 43, 32, 102, 32, 40, 120, 32, 45, 32, 49, 41, 32, 105, 110, 32, 102, 32, 49, 48]), .int .i64 1, .int .i64 55] ++ nils) (startH (tabOld tabsD))) = some (.bool true) := by kernel_rfl
theorem say1 : valOf (execTab ovD TAB 100000 12 ([.string (bs [108, 101, 116, 32, 114, 32, 61, 32, 114, 101, 102, 32, 49, 32, 105, 110, 32, 40, 114, 32, 58, 61, 32, 33, 32, 114, 32, 43, 32, 49, 32, 59, 32, 33, 32, 114, 41]), .int .i64 1, .int .i64 2] ++ nils) (startH (tabOld tabsD))) = some (.bool true) := by kernel_rfl
theorem say2 : valOf (execTab ovD TAB 100000 12 ([.string (bs [116, 121, 112, 101, 32, 108, 32, 61, 32, 78, 32, 124, 32, 67, 32, 111, 102, 32, 105, 110, 116, 44, 32, 108, 32, 105, 110, 32, 108, 101, 116, 32, 114, 101, 99, 32, 115, 32, 120, 32, 61, 32, 109, 97, 116, 99, 104, 32, 120, 32, 119, 105, 116, 104, 32, 78, 32, 45, 62, 32, 48, 32, 124, 32, 67, 32, 40, 97, 44, 32, 98, 41, 32, 45, 62, 32, 97, 32, 43, 32, 115, 32, 98, 32, 101, 110, 100, 32, 105, 110, 32, 115, 32, 40, 67, 32, 40, 49, 44, 32, 67, 32, 40, 50, 44, 32, 78, 41, 41, 41]), .int .i64 1, .int .i64 3] ++ nils) (startH (tabOld tabsD))) = some (.bool true) := by kernel_rfl
end Go.Pg
