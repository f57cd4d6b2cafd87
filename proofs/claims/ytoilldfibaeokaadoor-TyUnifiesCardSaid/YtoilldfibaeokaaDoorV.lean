/- What the heap holds at the beginning; what is answered by a contract. -/
import Derived.Test.YtoilldfibaeokaaDoorTTy
import Derived.Test.YtoilldfibaeokaaDoorRows
namespace Go.Pg
open Go.Proofs
abbrev ov0 : Ov := fun _ => none
abbrev ovD : Ov := fun k => bif Nat.beq k 55 then some (ovPure itoaG) else (ov0) k
noncomputable abbrev tabsD : List (Nat × IntKind × List Int) := [(1, .u8, numsD YtoilldfibaeokaaDoor.Rows.laid_math_bits_deBruijn32tab), (2, .u8, numsD YtoilldfibaeokaaDoor.Rows.laid_math_bits_deBruijn64tab), (0, .u64, numsD YtoilldfibaeokaaDoor.Rows.laid_internal_strconv_uint64pow10)]
end Go.Pg
