/- What the heap holds at the beginning; what is answered by a contract. -/
import Derived.Test.YtklneemgjlgelaaDoorTVf
import Derived.Test.YtklneemgjlgelaaDoorRows
namespace Go.Pg
open Go.Proofs
abbrev ov0 : Ov := fun _ => none
abbrev ovD : Ov := ov0
noncomputable abbrev tabsD : List (Nat × IntKind × List Int) := [(1, .u8, numsD YtklneemgjlgelaaDoor.Rows.laid_math_bits_deBruijn32tab), (2, .u8, numsD YtklneemgjlgelaaDoor.Rows.laid_math_bits_deBruijn64tab), (0, .u64, numsD YtklneemgjlgelaaDoor.Rows.laid_internal_strconv_uint64pow10)]
end Go.Pg
