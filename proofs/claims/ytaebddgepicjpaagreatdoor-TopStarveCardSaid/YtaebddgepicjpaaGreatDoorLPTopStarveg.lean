/- A part of the card of the law: the program's own. -/
import Derived.Test.YtaebddgepicjpaaGreatDoorTie
import Derived.Test.YtaebddgepicjpaaGreatDoorCards
import Derived.WalkKit
import Derived.ProofKit
import Derived.OpenShut
import Derived.Deep.DeepHandedRow
import Derived.Shelf.Unicode.PredsPay
import Derived.PinnedBridge
import Derived.Lay
import Derived.LaidOnce
import Derived.SevenTiedAt
import Derived.Test.YtaebddgepicjpaaGreatDoorLPTopStarvef
namespace Go.Proofs
open Go.RowKit Go.Shelf Go.Lib
namespace YtaebddgepicjpaaGreatDoor.topStarve
open Go.ChangeShapes Go.WideShapes Go.ChangeAt
set_option linter.unusedVariables false
theorem facts3 : (Tryz.prog.stopsHeard) = true ∧ (Tryz.prog.mayEnter) = true ∧ ((Rows.topStarveRow.lifted == Tryz.prog.liftsFinal)) = true ∧ (Rows.topStarveRow.veiledFits Tryz.prog Tryz.f3.params.toList (Tryz.f3.params.toList ++ (OpenSpec.ofChange Rows.topStarveSpec).bare.plain.varTypes Tryz.prog ++ Tryz.f3.resultTypes.toList)) = true := ⟨by kernel_rfl, by kernel_rfl, by kernel_rfl, by kernel_rfl⟩

end YtaebddgepicjpaaGreatDoor.topStarve
end Go.Proofs
