/- What the heap holds at the beginning; what is answered by a contract. -/
import Derived.Test.YtniknfiaapcmlaaDoorTLi
import Derived.Test.YtniknfiaapcmlaaDoorRows
namespace Go.Pg
open Go.Proofs
abbrev ov0 : Ov := fun _ => none
abbrev ovD : Ov := fun k => bif Nat.beq k 20 then some (ovPure letterG) else (ov0) k
noncomputable abbrev tabsD : List (Nat × IntKind × List Int) := [(0, .u8, numsD YtniknfiaapcmlaaDoor.Rows.laid_unicode_properties)]
end Go.Pg
