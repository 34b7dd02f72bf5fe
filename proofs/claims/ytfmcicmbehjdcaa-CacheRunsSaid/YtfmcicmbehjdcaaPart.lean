/- Package part: what its functions return, for valid shapes and places. -/
import Derived.Test.YtfmcicmbehjdcaaK1
import Derived.Handy
namespace Go.Proofs.Ytfmcicmbehjdcaa
set_option linter.unusedSimpArgs false
set_option linter.unusedVariables false
open Go.RowKit
set_option maxRecDepth 100000

/-- Six numbers as a value. -/
@[reducible] def v6 (a b c d e f : Int) : Value := .agg #[.int .i64 a, .int .i64 b, .int .i64 c, .int .i64 d, .int .i64 e, .int .i64 f]
/-- The call only computes: it hands back v, and all that was there is as it was. -/
def Gives (v : Value) (w : World) (e : Ending) (w' : World) : Prop := e = .returned v ∧ Below w.heap.size w w'

/-- A valid shape. -/
structure SV (a b c d e f : Int) : Prop where
  ha : 0 ≤ a ∧ a ≤ 12
  hb : 0 ≤ b ∧ b ≤ 12
  hc : 0 ≤ c ∧ c ≤ 12
  hd : 0 ≤ d ∧ d ≤ 12
  he : 0 ≤ e ∧ e ≤ 12
  hf : 0 ≤ f ∧ f ≤ 12
  sum : a + b + c + d + e + f ≤ 12
instance (a b c d e f : Int) : Decidable (SV a b c d e f) :=
  decidable_of_iff ((0 ≤ a ∧ a ≤ 12) ∧ (0 ≤ b ∧ b ≤ 12) ∧ (0 ≤ c ∧ c ≤ 12) ∧ (0 ≤ d ∧ d ≤ 12) ∧ (0 ≤ e ∧ e ≤ 12) ∧ (0 ≤ f ∧ f ≤ 12) ∧ a + b + c + d + e + f ≤ 12)
    ⟨fun ⟨a, b, c, d, e, f, g⟩ => ⟨a, b, c, d, e, f, g⟩, fun ⟨a, b, c, d, e, f, g⟩ => ⟨a, b, c, d, e, f, g⟩⟩
theorem not_SV {a b c d e f : Int} (h : ¬ ((0 ≤ a ∧ a ≤ 12) ∧ (0 ≤ b ∧ b ≤ 12) ∧ (0 ≤ c ∧ c ≤ 12) ∧ (0 ≤ d ∧ d ≤ 12) ∧ (0 ≤ e ∧ e ≤ 12) ∧ (0 ≤ f ∧ f ≤ 12) ∧ a + b + c + d + e + f ≤ 12)) : ¬ SV a b c d e f :=
  fun ⟨a, b, c, d, e, f, g⟩ => h ⟨a, b, c, d, e, f, g⟩
theorem ret_bool {a b : Bool} (h : a = b) : Ending.returned (.bool a) = .returned (.bool b) := by rw [h]

end Go.Proofs.Ytfmcicmbehjdcaa
