/- A law of fixed examples: computed by the kernel, runs of texts shown ahead. -/
import Derived.Test.YtlafmapnfbefiaaGreatDoorSayO
namespace Go.Pg
open Go.Proofs
theorem sourceKnown_true : WpF PROG ovE 4 [] (startH (tabOld tabsD)) fun v _ => v = .bool true := WpF.tab TAB_ok 100000 (by kernel_rfl)
end Go.Pg
