/- Nothing is answered by a contract; awake, computed. -/
import Derived.Test.YtndkndlfhmkkkaaTHp
namespace Go.Pg
abbrev ov0 : Ov := fun _ => none
end Go.Pg
