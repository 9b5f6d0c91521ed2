/- What is found of the program by reckoning, for the row. -/
import Derived.Test.YtffoncjofjgojaaGreatDoorRows
import Derived.KernelRfl
import Derived.ProofKit
import Derived.OpenShut
set_option linter.all false
/-! part Z171f -/
namespace Go.Proofs.YtffoncjofjgojaaGreatDoor.rulesValidates
open Go.ChangeShapes Go.WideShapes Go.ChangeAt Go.RowKit
theorem facts : joinedFacts Tryz.pinned.checked.prog 11 Tryz.f11 Rows.rulesValidatesSpec Rows.rulesValidatesRow = true := by kernel_rfl

end Go.Proofs.YtffoncjofjgojaaGreatDoor.rulesValidates
