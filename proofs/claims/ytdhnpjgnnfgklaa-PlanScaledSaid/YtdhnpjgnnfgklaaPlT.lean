/- Plan (chapter 39): the best plan (the specification). -/
import Derived.Test.YtdhnpjgnnfgklaaPlS
namespace Go.Proofs.Ytdhnpjgnnfgklaa
set_option linter.unusedSimpArgs false
set_option linter.unusedVariables false
open Go.RowKit
set_option maxRecDepth 100000
attribute [local irreducible] wpX wpF Calls
attribute [local go_sem] run_mkMapG

theorem addr_addP (g o q : Nat) : (⟨g, o, none⟩ : Addr).add q = ⟨g, o + q, none⟩ := by unfold Addr.add; split <;> simp_all
end Go.Proofs.Ytdhnpjgnnfgklaa
