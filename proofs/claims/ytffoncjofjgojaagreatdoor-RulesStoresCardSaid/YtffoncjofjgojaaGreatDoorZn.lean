/- By which fields is asked, which answers confirm, whether nothing has changed. -/
import Derived.Test.YtffoncjofjgojaaGreatDoorZm
set_option linter.all false
/-! part Z135 -/
namespace Go.Av
open Go.Proofs
set_option maxRecDepth 100000
end Go.Av

/-! part Z136 -/
namespace Go.Av
open Go.Proofs
set_option maxRecDepth 100000
end Go.Av

/-! part Z137 -/
namespace Go.Av
open Go.Proofs
set_option maxRecDepth 100000
end Go.Av

/-! part Z138 -/
namespace Go.Av
open Go.Proofs
set_option maxRecDepth 100000
end Go.Av

/-! part Z139 -/
namespace Go.Av
open Go.Proofs
end Go.Av
