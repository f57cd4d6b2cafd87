/- A law of fixed examples: computed by the kernel. -/
import Derived.Test.YthpehkpeocoliaaGreatDoorTTn
import Derived.Test.YthpehkpeocoliaaGreatDoorRows
namespace Go.Pg
open Go.Proofs
abbrev ov0 : Ov := fun _ => none
abbrev ovD : Ov := fun k => bif Nat.beq k 92 then some (ovPure letterG) else (fun k => bif Nat.beq k 128 then some (ovPure upperG) else (ov0) k) k
noncomputable abbrev tabsD : List (Nat × IntKind × List Int) := [(6, .u8, numsD YthpehkpeocoliaaGreatDoor.Rows.laid_math_bits_deBruijn32tab), (7, .u8, numsD YthpehkpeocoliaaGreatDoor.Rows.laid_math_bits_deBruijn64tab), (4, .u64, numsD YthpehkpeocoliaaGreatDoor.Rows.laid_internal_strconv_uint64pow10), (0, .u8, numsD YthpehkpeocoliaaGreatDoor.Rows.laid_unicode_properties)]
theorem topNames_true : WpF PROG ovD 3 [] (startH (tabOld tabsD)) fun v _ => v = .bool true := WpF.tab TAB_ok 100000 (by kernel_rfl)
end Go.Pg
