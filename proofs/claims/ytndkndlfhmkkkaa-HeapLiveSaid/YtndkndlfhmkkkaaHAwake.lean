/- Layer 12: awake, computed. -/
import Derived.Test.YtndkndlfhmkkkaaTabF
namespace Go.Pg
theorem awake12 (old : Addr → Option Value) : WpF PROG ov0 9 [] (startH old) fun v σ' => v = .bool true ∧ σ'.old = old ∧ Fresh σ' :=
  WpF.tabQ TAB_ok 10000 (by kernel_rfl) (by kernel_rfl)
end Go.Pg
