/- Layer 18: awake, computed. -/
import Derived.Test.YteelimkplbfiiaaDoorTabF
namespace Go.Pg
theorem awake18 (old : Addr → Option Value) : WpF PROG ovD 5 [] (startH old) fun v σ' => v = .bool true ∧ σ'.old = old ∧ Fresh σ' :=
  WpF.tabQ TAB_ok 10000 (by kernel_rfl) (by kernel_rfl)
end Go.Pg
