/- math/bits.OnesCount8. -/
import Derived.Test.YtaeockopliplfaaDoorBase
import Derived.Lib.Strings
import Derived.Lib.Slices
import Derived.Lib.Small
import Derived.Lib.Walk
import Derived.Lib.BitFns
namespace Go.Proofs.YtaeockopliplfaaDoor
set_option linter.unusedSimpArgs false
set_option linter.unusedVariables false

theorem ones_all (x : Int) (w : World) (h0 : 0 ≤ x) (h1 : x ≤ 255) :
    Calls Tryd.prog 59 #[.int .u8 x] w fun e w' => e = .returned (.int .i64 (Lib.onesCount x.toNat)) ∧ w' = w := by
  have e2 : RowKit.wrap64 (Lib.pop8 x) = (Lib.onesCount x.toNat : Int) := by
    rw [← Lib.pop8_int x h0 h1]
    simp only [RowKit.wrap64, IntKind.wrap_i64]
  go_enter Tryd.func59, Tryd.ntmps59
  go_wp2
  go_ret
  exact ⟨congrArg (fun v => Ending.returned (.int .i64 v)) e2, rfl⟩
end Go.Proofs.YtaeockopliplfaaDoor
