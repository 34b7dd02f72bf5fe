/- Package owner: Find, Map. -/
import Derived.Test.YtedbpmckgiifpaaGreatOP4
import Derived.Test.YtedbpmckgiifpaaGreatJ6
namespace Go.Proofs.YtedbpmckgiifpaaGreat
set_option linter.unusedSimpArgs false
set_option linter.unusedVariables false
open Go.RowKit
set_option maxRecDepth 100000
attribute [local go_sem] lt_more ne_more ne_more'
attribute [local irreducible] wpX wpF Calls

def vPg (x : Pg) : Value := .agg #[.int .i64 x.n, .int .i64 x.f, .bool x.s]
theorem getP_err {ps : List Pr} {id n e : Int} (h : findP ps id n = (e, 0, 0)) (he : e = 41 ∨ e = 42) : getP ps id n = (zPg, e) := by
  unfold getP; rw [h]; rcases he with rfl | rfl <;> rfl
theorem getP_ok {ps : List Pr} {id n : Int} {i k : Nat} (h : findP ps id n = (0, i, k)) : getP ps id n = ((ps[i]!).pages[k]!, 0) := by
  unfold getP; rw [h]; rfl
theorem insPg_pos (pg : List Pg) (n f : Int) : insPg pg ⟨n, f, false⟩ = pg.take (posN pg n) ++ ⟨n, f, false⟩ :: pg.drop (posN pg n) := by
  unfold insPg posN
  have h := List.takeWhile_append_dropWhile (p := fun y : Pg => decide (y.n < n)) (l := pg)
  dsimp only
  obtain ⟨a, ha⟩ : ∃ a, a = pg.takeWhile fun y => decide (y.n < n) := ⟨_, rfl⟩
  obtain ⟨b, hb⟩ : ∃ b, b = pg.dropWhile fun y => decide (y.n < n) := ⟨_, rfl⟩
  rw [← ha, ← hb] at h ⊢
  rw [← h, List.take_left, List.drop_left]
theorem setSmallPg {F : Int} {ps : List Pr} (h : GoodP F ps) {i : Nat} (hi : i < ps.length) {pi : Int} {pt pd : Bool} {pg pg' : List Pg} {td : List Int} (he : ps[i]! = ⟨pi, pt, pd, pg, td⟩) (hl : pg'.length ≤ 1000) {pi' : Int} {pt' pd' : Bool} : SmallP (ps.set i ⟨pi', pt', pd', pg', td⟩) := by
  have h1 := h.smallP
  have h2 := h1.2 _ (at_mem hi)
  rw [he] at h2
  exact setSmall h1 i (p := ⟨pi', pt', pd', pg', td⟩) ⟨hl, h2.2⟩
end Go.Proofs.YtedbpmckgiifpaaGreat
