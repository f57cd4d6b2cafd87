/- Layer 17: FrameKnown, computed by the kernel. -/
import Derived.Test.YteelimkplbfiiaaV
namespace Go.Pg
open Go.Proofs
theorem frameKnown_true : WpF PROG ov0 5 [] (startH fun _ => none) fun v _ => v = .bool true := WpF.tab TAB_ok 100000 (by kernel_rfl)
end Go.Pg
