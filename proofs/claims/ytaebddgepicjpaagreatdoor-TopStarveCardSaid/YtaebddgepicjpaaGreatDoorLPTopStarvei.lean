/- A part of the card of the law: what it goes by. -/
import Derived.Test.YtaebddgepicjpaaGreatDoorTie
import Derived.Test.YtaebddgepicjpaaGreatDoorCards
import Derived.WalkKit
import Derived.ProofKit
import Derived.OpenShut
import Derived.Deep.DeepHandedRow
import Derived.Shelf.Unicode.PredsPay
import Derived.PinnedBridge
import Derived.Lay
import Derived.LaidOnce
import Derived.SevenTiedAt
import Derived.Test.YtaebddgepicjpaaGreatDoorLPTopStarveh
namespace Go.Proofs
open Go.RowKit Go.Shelf Go.Lib
namespace YtaebddgepicjpaaGreatDoor.topStarve
open Go.ChangeShapes Go.WideShapes Go.ChangeAt
set_option linter.unusedVariables false
theorem goes : false = Rows.topStarveRow.goesBy Tryz.prog := by kernel_rfl

end YtaebddgepicjpaaGreatDoor.topStarve
end Go.Proofs
