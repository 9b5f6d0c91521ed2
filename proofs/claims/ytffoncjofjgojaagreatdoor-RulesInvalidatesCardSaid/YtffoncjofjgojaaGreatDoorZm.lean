/- What is kept, with what a response says anew. -/
import Derived.Test.YtffoncjofjgojaaGreatDoorZl
set_option linter.all false
/-! part Z131 -/
namespace Go.Av
open Go.Proofs
set_option maxRecDepth 100000
end Go.Av

/-! part Z132 -/
namespace Go.Av
open Go.Proofs
set_option maxRecDepth 100000
end Go.Av

/-! part Z133 -/
namespace Go.Av
open Go.Proofs
end Go.Av
