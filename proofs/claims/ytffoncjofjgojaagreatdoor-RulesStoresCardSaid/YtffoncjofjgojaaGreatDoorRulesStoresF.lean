/- What is found of the program by reckoning, for the row. -/
import Derived.Test.YtffoncjofjgojaaGreatDoorRows
import Derived.KernelRfl
import Derived.ProofKit
import Derived.OpenShut
set_option linter.all false
/-! part Z170f -/
namespace Go.Proofs.YtffoncjofjgojaaGreatDoor.rulesStores
open Go.ChangeShapes Go.WideShapes Go.ChangeAt Go.RowKit
theorem facts : joinedFacts Tryz.pinned.checked.prog 7 Tryz.f7 Rows.rulesStoresSpec Rows.rulesStoresRow = true := by kernel_rfl

end Go.Proofs.YtffoncjofjgojaaGreatDoor.rulesStores
