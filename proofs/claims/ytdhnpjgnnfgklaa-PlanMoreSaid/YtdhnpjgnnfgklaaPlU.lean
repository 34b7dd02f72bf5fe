/- Plan (chapter 39): ref.Same. -/
import Derived.Test.YtdhnpjgnnfgklaaPlT
namespace Go.Proofs.Ytdhnpjgnnfgklaa
set_option linter.unusedSimpArgs false
set_option linter.unusedVariables false
open Go.RowKit
set_option maxRecDepth 100000
attribute [local irreducible] wpX wpF Calls
attribute [local go_sem] run_mkMapG

end Go.Proofs.Ytdhnpjgnnfgklaa
