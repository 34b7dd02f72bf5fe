/- Package part: Covers. -/
import Derived.Test.YtdhnpjgnnfgklaaK5
namespace Go.Proofs.Ytdhnpjgnnfgklaa
set_option linter.unusedSimpArgs false
set_option linter.unusedVariables false
open Go.RowKit
set_option maxRecDepth 100000
attribute [local go_sem] lt_more ne_more ne_more' ix0 ix1 ix2 ix3 ix4 ix5

/-- Which numbers of its place a fault of kind k names. -/
def nmB (k : Int) (i : Nat) : Bool := match i with
  | 0 => true
  | 1 => true
  | 2 => decide (k ≤ 5)
  | 3 => decide (k ≤ 4)
  | 4 => decide (k ≤ 2)
  | 5 => decide (k = 1) || decide (k = 3)
  | _ => false
/-- A fault of kind k at the place p covers the place q. -/
structure CV (k p0 p1 p2 p3 p4 p5 q0 q1 q2 q3 q4 q5 : Int) : Prop where
  h0 : p0 = q0
  h1 : p1 = q1
  h2 : k ≤ 5 → p2 = q2
  h3 : k ≤ 4 → p3 = q3
  h4 : k ≤ 2 → p4 = q4
  h5 : k = 1 ∨ k = 3 → p5 = q5
instance (k p0 p1 p2 p3 p4 p5 q0 q1 q2 q3 q4 q5 : Int) : Decidable (CV k p0 p1 p2 p3 p4 p5 q0 q1 q2 q3 q4 q5) :=
  decidable_of_iff (p0 = q0 ∧ p1 = q1 ∧ (k ≤ 5 → p2 = q2) ∧ (k ≤ 4 → p3 = q3) ∧ (k ≤ 2 → p4 = q4) ∧ (k = 1 ∨ k = 3 → p5 = q5))
    ⟨fun ⟨a, b, c, d, e, f⟩ => ⟨a, b, c, d, e, f⟩, fun ⟨a, b, c, d, e, f⟩ => ⟨a, b, c, d, e, f⟩⟩
end Go.Proofs.Ytdhnpjgnnfgklaa
