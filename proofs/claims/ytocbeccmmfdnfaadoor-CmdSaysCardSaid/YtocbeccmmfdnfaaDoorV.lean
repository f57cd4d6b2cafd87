/- What the heap holds at the beginning; what is answered by a contract. -/
import Derived.Test.YtocbeccmmfdnfaaDoorTCm
import Derived.Test.YtocbeccmmfdnfaaDoorRows
namespace Go.Pg
open Go.Proofs
abbrev ov0 : Ov := fun _ => none
abbrev ovD : Ov := fun k => bif Nat.beq k 22 then some (ovPure formatG) else (fun k => bif Nat.beq k 38 then some (ovPure letterG) else (fun k => bif Nat.beq k 31 then some (ovPure upperG) else (ov0) k) k) k
noncomputable abbrev tabsD : List (Nat × IntKind × List Int) := [(4, .u8, numsD YtocbeccmmfdnfaaDoor.Rows.laid_math_bits_deBruijn32tab), (5, .u8, numsD YtocbeccmmfdnfaaDoor.Rows.laid_math_bits_deBruijn64tab), (3, .u64, numsD YtocbeccmmfdnfaaDoor.Rows.laid_internal_strconv_uint64pow10), (0, .u8, numsD YtocbeccmmfdnfaaDoor.Rows.laid_unicode_properties)]
end Go.Pg
