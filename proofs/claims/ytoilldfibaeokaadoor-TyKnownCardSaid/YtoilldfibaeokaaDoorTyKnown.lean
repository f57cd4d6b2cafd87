/- A law of fixed examples: computed by the kernel. -/
import Derived.Test.YtoilldfibaeokaaDoorTyL
namespace Go.Pg
open Go.Proofs
theorem tyKnown_true : WpF PROG ovL 8 [] (startH (tabOld tabsD)) fun v _ => v = .bool true := WpF.tab TAB_ok 100000 (by kernel_rfl)
end Go.Pg
