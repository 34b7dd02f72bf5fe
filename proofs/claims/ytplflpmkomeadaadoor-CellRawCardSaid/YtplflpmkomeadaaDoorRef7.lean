/- The specification of layer 9 (memfaultref09): which numbers a kind names, Covers. -/
import Derived.Test.YtplflpmkomeadaaDoorRef5
import Derived.Test.YtplflpmkomeadaaDoorCov
namespace Go.Proofs.YtplflpmkomeadaaDoor
set_option linter.unusedSimpArgs false
set_option linter.unusedVariables false
open Go.RowKit
set_option maxRecDepth 100000
attribute [local go_sem] lt_more ne_more ne_more'
attribute [local irreducible] wpX

@[reducible] def b6 (k : Int) : Value := .agg #[.bool (nmB k 0), .bool (nmB k 1), .bool (nmB k 2), .bool (nmB k 3), .bool (nmB k 4), .bool (nmB k 5)]
theorem named_yes (k : Int) (hk : 1 ≤ k ∧ k ≤ 6) (w : World) : Calls Tryd.prog 91 #[.int .i64 k] w (Gives (.tuple #[b6 k, .bool true]) w) := by
  have : k = 1 ∨ k = 2 ∨ k = 3 ∨ k = 4 ∨ k = 5 ∨ k = 6 := by omega
  rcases this with rfl | rfl | rfl | rfl | rfl | rfl
  all_goals
    go_enter Tryd.func91, Tryd.ntmps91
    go_wp2
    go_returns
    refine ⟨rfl, ?_⟩
    go_grown
theorem named_no (k : Int) (hk : ¬ (1 ≤ k ∧ k ≤ 6)) (w : World) : Calls Tryd.prog 91 #[.int .i64 k] w (Gives (.tuple #[.agg #[.bool false, .bool false, .bool false, .bool false, .bool false, .bool false], .bool false]) w) := by
  have h1 : ¬ k = 1 := by omega
  have h2 : ¬ k = 2 := by omega
  have h3 : ¬ k = 3 := by omega
  have h4 : ¬ k = 4 := by omega
  have h5 : ¬ k = 5 := by omega
  have h6 : ¬ k = 6 := by omega
  clear hk
  go_enter Tryd.func91, Tryd.ntmps91
  go_wp2
  go_returns
  refine ⟨rfl, ?_⟩
  go_grown
end Go.Proofs.YtplflpmkomeadaaDoor
