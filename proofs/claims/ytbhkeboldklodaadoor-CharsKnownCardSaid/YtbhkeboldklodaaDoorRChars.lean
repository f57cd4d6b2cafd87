/- A law of fixed examples: computed by the kernel. -/
import Derived.Test.YtbhkeboldklodaaDoorTChars
import Derived.Test.YtbhkeboldklodaaDoorRows
namespace Go.Pg
open Go.Proofs
abbrev ov0 : Ov := fun _ => none
abbrev ovD : Ov := fun k => bif Nat.beq k 33 then some (ovPure letterG) else (fun k => bif Nat.beq k 34 then some (ovPure upperG) else (ov0) k) k
noncomputable abbrev tabsD : List (Nat × IntKind × List Int) := [(0, .u8, numsD YtbhkeboldklodaaDoor.Rows.laid_unicode_properties)]
theorem charsKnown_true : WpF PROG ovD 3 [] (startH (tabOld tabsD)) fun v _ => v = .bool true := WpF.tab TAB_ok 100000 (by kernel_rfl)
end Go.Pg
