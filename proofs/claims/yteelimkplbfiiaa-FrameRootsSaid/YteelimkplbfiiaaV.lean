/- Nothing is answered by a contract. -/
import Derived.Test.YteelimkplbfiiaaTFr
namespace Go.Pg
abbrev ov0 : Ov := fun _ => none
end Go.Pg
