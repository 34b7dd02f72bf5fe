/- 'append' of what lies anywhere, as a step of a region that draws (as PgE, for any seat). -/
import Derived.Test.YtdhnpjgnnfgklaaK2
namespace Go.Proofs.Ytdhnpjgnnfgklaa
set_option linter.unusedSimpArgs false
set_option linter.unusedVariables false
open Go.RowKit
set_option maxRecDepth 100000
attribute [local irreducible] wpX wpF Calls

section
variable {P : Program} {D : Nat → Prop} {W w : World} {L : List Item}
end
end Go.Proofs.Ytdhnpjgnnfgklaa
