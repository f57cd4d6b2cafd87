/- A law of fixed examples: computed by the kernel. -/
import Derived.Test.YtdphfhpngkhhhaaDoorTVk
import Derived.Test.YtdphfhpngkhhhaaDoorRows
namespace Go.Pg
open Go.Proofs
abbrev ov0 : Ov := fun _ => none
abbrev ovD : Ov := fun k => bif Nat.beq k 27 then some joinG else (fun k => bif Nat.beq k 18 then some (ovPure formatG) else (ov0) k) k
noncomputable abbrev tabsD : List (Nat × IntKind × List Int) := [(1, .u8, numsD YtdphfhpngkhhhaaDoor.Rows.laid_math_bits_deBruijn32tab), (2, .u8, numsD YtdphfhpngkhhhaaDoor.Rows.laid_math_bits_deBruijn64tab), (0, .u64, numsD YtdphfhpngkhhhaaDoor.Rows.laid_internal_strconv_uint64pow10)]
theorem valKnown_true : WpF PROG ovD 3 [] (startH (tabOld tabsD)) fun v _ => v = .bool true := WpF.tab TAB_ok 100000 (by kernel_rfl)
end Go.Pg
