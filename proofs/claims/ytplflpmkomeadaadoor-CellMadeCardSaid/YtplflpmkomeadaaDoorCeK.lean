/- ref13.Store, on anything. -/
import Derived.Test.YtplflpmkomeadaaDoorCeJ
import Derived.Test.YtplflpmkomeadaaDoorCeG
namespace Go.Proofs.YtplflpmkomeadaaDoor
set_option linter.unusedSimpArgs false
set_option linter.unusedVariables false
open Go.RowKit
set_option maxRecDepth 100000
attribute [local irreducible] wpX wpF Calls

/-- What Store answers. -/
def storeF (M : Mm) (m : Wm) : Mm × Int := if goodB M = true then (if 0 ≤ m.ix ∧ m.ix < szM M then (if m.bs.length = (M.dt + M.ck).toNat then (setWs M (putW M.ws m), 0) else (M, 7)) else (M, 2)) else (M, 1)
end Go.Proofs.YtplflpmkomeadaaDoor
