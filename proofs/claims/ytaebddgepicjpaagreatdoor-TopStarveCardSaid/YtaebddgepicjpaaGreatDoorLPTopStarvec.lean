/- A part of the card of the law: its lift. -/
import Derived.Test.YtaebddgepicjpaaGreatDoorTie
import Derived.Test.YtaebddgepicjpaaGreatDoorCards
import Derived.WalkKit
import Derived.ProofKit
import Derived.OpenShut
import Derived.Deep.DeepHandedRow
import Derived.Shelf.Unicode.PredsPay
import Derived.PinnedBridge
import Derived.Lay
import Derived.LaidOnce
import Derived.SevenTiedAt
import Derived.Test.YtaebddgepicjpaaGreatDoorLPTopStarveb
namespace Go.Proofs
open Go.RowKit Go.Shelf Go.Lib
namespace YtaebddgepicjpaaGreatDoor.topStarve
open Go.ChangeShapes Go.WideShapes Go.ChangeAt
set_option linter.unusedVariables false
set_option maxRecDepth 100000 in
theorem lifted (os : Os) (started : os.Started) (H : Type) (enc : TypeId × Value → H) (F : Stop.Interp) :
    ReturnsInHanded {} Tryz.checked os 3 .any ((OpenSpec.ofChange Rows.topStarveSpec).preRow enc Tryz.prog Tryz.f3 Rows.topStarveRow.domain false Rows.topStarveRow.laid) (((OpenSpec.ofChange Rows.topStarveSpec).at F).post enc Tryz.prog Tryz.f3 false true false false) := by
  refine returnsInHanded_of_row (C := Tryz.checked) (s := OpenSpec.ofChange Rows.topStarveSpec) own started (by kernel_rfl) Tryz.func3
    (Go.Pg.witness_row_shaped (C := Tryz.checked) (World.laidAll Tryz.prog os Rows.topStarveRow.laid) #[.slice none 0 0] (World.laidAll_os _ _ _) (World.shaped_of_ZipB (by kernel_rfl) (by kernel_rfl)) (by kernel_rfl)
      (OpenSpec.preRow_of_cond 8 (x := ([.nil], [], [])) (by kernel_rfl) (by kernel_rfl) (fun k hk => by cases hk) (by kernel_rfl)
        (by rw [MakeChecks.laidMetH_plain _ _ _ (by kernel_rfl)]; exact laidMet_laidAll _ (by kernel_rfl) (by kernel_rfl)))) ?_
  intro W base args ds gs before hval hW _ _ _ hL hS _
  exact contract H enc W base args ds gs before hval hW hS hL


end YtaebddgepicjpaaGreatDoor.topStarve
end Go.Proofs
