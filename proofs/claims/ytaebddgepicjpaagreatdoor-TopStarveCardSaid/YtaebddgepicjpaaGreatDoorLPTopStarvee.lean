/- A part of the card of the law: what the program names and reaches. -/
import Derived.Test.YtaebddgepicjpaaGreatDoorTie
import Derived.Test.YtaebddgepicjpaaGreatDoorCards
import Derived.WalkKit
import Derived.ProofKit
import Derived.OpenShut
import Derived.Deep.DeepHandedRow
import Derived.Shelf.Unicode.PredsPay
import Derived.PinnedBridge
import Derived.Lay
import Derived.LaidOnce
import Derived.SevenTiedAt
import Derived.Test.YtaebddgepicjpaaGreatDoorLPTopStarvec
namespace Go.Proofs
open Go.RowKit Go.Shelf Go.Lib
namespace YtaebddgepicjpaaGreatDoor.topStarve
open Go.ChangeShapes Go.WideShapes Go.ChangeAt
set_option linter.unusedVariables false
theorem facts1 : ((Rows.topStarveRow.inPlace == Tryz.prog.inPlace 3)) = true ∧ ((Rows.topStarveRow.unfollowed == Tryz.prog.unfollowed 3)) = true ∧ ((Rows.topStarveRow.recurses == Tryz.prog.recurses 3)) = true ∧ ((Rows.topStarveRow.named == Tryz.prog.varsNamed 3)) = true := ⟨by kernel_rfl, by kernel_rfl, by kernel_rfl, by kernel_rfl⟩

end YtaebddgepicjpaaGreatDoor.topStarve
end Go.Proofs
