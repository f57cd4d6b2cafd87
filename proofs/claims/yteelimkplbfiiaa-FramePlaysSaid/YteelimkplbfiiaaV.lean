/- Calls is answered by its contract. -/
import Derived.Test.YteelimkplbfiiaaTFr
import Derived.Test.YteelimkplbfiiaaCallsG
namespace Go.Pg
abbrev ov0 : Ov := fun k => bif Nat.beq k 25 then some callsG else none
end Go.Pg
