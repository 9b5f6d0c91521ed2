/- What is found of the program by reckoning, for the row. -/
import Derived.Test.YtffoncjofjgojaaGreatDoorRows
import Derived.KernelRfl
import Derived.ProofKit
import Derived.OpenShut
set_option linter.all false
/-! part Z189f -/
namespace Go.Proofs.YtffoncjofjgojaaGreatDoor.rulesInvalidates
open Go.ChangeShapes Go.WideShapes Go.ChangeAt Go.RowKit
theorem facts : joinedFacts Tryz.pinned.checked.prog 8 Tryz.f8 Rows.rulesInvalidatesSpec Rows.rulesInvalidatesRow = true := by kernel_rfl

end Go.Proofs.YtffoncjofjgojaaGreatDoor.rulesInvalidates
