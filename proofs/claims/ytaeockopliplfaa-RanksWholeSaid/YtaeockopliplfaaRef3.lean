/- The specification of layer 9 (memfaultref09): Index. -/
import Derived.Test.YtaeockopliplfaaRef2
namespace Go.Proofs.Ytaeockopliplfaa
set_option linter.unusedSimpArgs false
set_option linter.unusedVariables false
open Go.RowKit
set_option maxRecDepth 100000
attribute [local go_sem] lt_more ne_more ne_more'
attribute [local irreducible] wpX

/-- The index of the first i numbers of a place. -/
def idxN (a0 a1 a2 a3 a4 a5 p0 p1 p2 p3 p4 p5 : Int) : Nat → Int
  | 0 => 0
  | i + 1 => idxN a0 a1 a2 a3 a4 a5 p0 p1 p2 p3 p4 p5 i * 2 ^ (pick6 a0 a1 a2 a3 a4 a5 i).toNat + pick6 p0 p1 p2 p3 p4 p5 i
theorem idxN_last (a0 a1 a2 a3 a4 a5 p0 p1 p2 p3 p4 p5 : Int) : idxN a0 a1 a2 a3 a4 a5 p0 p1 p2 p3 p4 p5 6 = idx a1 a2 a3 a4 a5 p0 p1 p2 p3 p4 p5 := by
  simp [idxN, idx, pick6]
theorem idxN_in {a0 a1 a2 a3 a4 a5 p0 p1 p2 p3 p4 p5 : Int} (h : SV a0 a1 a2 a3 a4 a5) (hp : PV a0 a1 a2 a3 a4 a5 p0 p1 p2 p3 p4 p5) {i : Nat} (hi : i ≤ 6) :
    0 ≤ idxN a0 a1 a2 a3 a4 a5 p0 p1 p2 p3 p4 p5 i ∧ idxN a0 a1 a2 a3 a4 a5 p0 p1 p2 p3 p4 p5 i < 4096 := by
  obtain ⟨ha, hb, hc, hd, he, hf, hs⟩ := h
  obtain ⟨h0, h1, h2, h3, h4, h5⟩ := hp
  have s1 : 0 ≤ p0 ∧ p0 < 2 ^ a0.toNat := h0
  have s2 := step_lt (by omega) (by omega) s1 h1
  have s3 := step_lt (by omega) (by omega) s2 h2
  have s4 := step_lt (by omega) (by omega) s3 h3
  have s5 := step_lt (by omega) (by omega) s4 h4
  have s6 := step_lt (by omega) (by omega) s5 h5
  have q1 := pw_12 (a := a0) (by omega)
  have q2 := pw_12 (a := a0 + a1) (by omega)
  have q3 := pw_12 (a := a0 + a1 + a2) (by omega)
  have q4 := pw_12 (a := a0 + a1 + a2 + a3) (by omega)
  have q5 := pw_12 (a := a0 + a1 + a2 + a3 + a4) (by omega)
  have q6 := pw_12 (a := a0 + a1 + a2 + a3 + a4 + a5) (by omega)
  have : i = 0 ∨ i = 1 ∨ i = 2 ∨ i = 3 ∨ i = 4 ∨ i = 5 ∨ i = 6 := by omega
  rcases this with rfl | rfl | rfl | rfl | rfl | rfl | rfl <;> simp only [idxN, pick6, Int.zero_mul, Int.zero_add] <;> omega

end Go.Proofs.Ytaeockopliplfaa
