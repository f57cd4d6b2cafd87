/- A law of fixed examples: computed by the kernel. -/
import Derived.Test.YtbhkeboldklodaaTHeap
namespace Go.Pg
open Go.Proofs
abbrev ov0 : Ov := fun _ => none
theorem heapKnown_true : WpF PROG ov0 4 [] (startH fun _ => none) fun v _ => v = .bool true := WpF.tab TAB_ok 100000 (by kernel_rfl)
end Go.Pg
