/- What the heap holds at the beginning; what is answered by a contract. -/
import Derived.Test.YtgbgkagodmhbhaaDoorTLx
import Derived.Test.YtgbgkagodmhbhaaDoorRows
namespace Go.Pg
open Go.Proofs
abbrev ov0 : Ov := fun _ => none
abbrev ovD : Ov := fun k => bif Nat.beq k 37 then some (ovPure decodeG) else (fun k => bif Nat.beq k 54 then some (ovPure letterG) else (fun k => bif Nat.beq k 51 then some (ovPure upperG) else (ov0) k) k) k
noncomputable abbrev tabsD : List (Nat × IntKind × List Int) := [(0, .u8, numsD YtgbgkagodmhbhaaDoor.Rows.laid_unicode_properties)]
end Go.Pg
