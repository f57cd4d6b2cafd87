/- What the heap holds at the beginning; what is answered by a contract. -/
import Derived.Test.YtlpebjohofhbgaaDoorTVs
import Derived.Test.YtlpebjohofhbgaaDoorRows
namespace Go.Pg
open Go.Proofs
abbrev ov0 : Ov := fun _ => none
abbrev ovD : Ov := fun k => bif Nat.beq k 34 then some joinG else (fun k => bif Nat.beq k 23 then some (ovPure formatG) else (ov0) k) k
noncomputable abbrev tabsD : List (Nat × IntKind × List Int) := [(1, .u8, numsD YtlpebjohofhbgaaDoor.Rows.laid_math_bits_deBruijn32tab), (2, .u8, numsD YtlpebjohofhbgaaDoor.Rows.laid_math_bits_deBruijn64tab), (0, .u64, numsD YtlpebjohofhbgaaDoor.Rows.laid_internal_strconv_uint64pow10)]
end Go.Pg
