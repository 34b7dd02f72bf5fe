/- The statement OwnerForks: its walk. -/
import Derived.Test.YtedbpmckgiifpaaGreatAwk29
import Derived.Test.YtedbpmckgiifpaaGreatO8
namespace Go.Proofs.YtedbpmckgiifpaaGreat
set_option linter.unusedSimpArgs false
set_option linter.unusedVariables false
open Go.RowKit
set_option maxRecDepth 100000
attribute [local go_sem] lt_more ne_more ne_more'
attribute [local irreducible] wpX wpF Calls

theorem gives_of {n : Nat} {args : Array Value} {v : Value} {w : World} (h : Calls Tryz.prog n args w fun e w' => e = .returned v ∧ w = w') : Calls Tryz.prog n args w (Gives v w) :=
  h.mono fun e w' ⟨h1, h2⟩ => ⟨h1, h2 ▸ Below.refl _ _⟩
section
variable {D : Nat → Prop} {W w : World} {L : List Item}
theorem HS.ownPs2 (h : HS D W L w) (i j : Nat) {n : Nat} {v : Value} {qs : List Pv} (hi : L[i]? = some (.row v 52 5 n (qs.flatMap pvC))) (hn : n = qs.length) (hj : L[j]? = some (.many (qs.flatMap innerR))) : Ps w w.heap.size v (qs.map (·.p)) :=
  Proofs.YtedbpmckgiifpaaGreat.ownPs fun A hA => by
    subst hn
    rcases List.mem_cons.1 hA with rfl | hA
    · exact h.at i hi
    · exact h.manyOks j hj A hA
theorem HS.pagesLies (h : HS D W L w) (j : Nat) {qs : List Pv} (hj : L[j]? = some (.many (qs.flatMap innerR))) {k : Nat} (hk : k < qs.length) {p : Pr} {pb : Option Addr} {pc : Nat} {ta : Value} (e : qs[k]! = ⟨p, .slice pb p.pages.length pc, ta⟩) : Lies w w.heap.size pb 3 p.pages.length (fun j => pgC p.pages[j]!) := by
  have h1 := innerAt (h.manyOks j hj) _ (mem_at hk)
  rw [e] at h1
  obtain ⟨⟨sa, c, e1, hc, hl⟩, -⟩ := h1
  injection e1 with e1 e2 e3
  rw [e1]
  exact hl
/-- A slice of programs of one's own, its rows apart. -/
theorem HS.openPs (h : HS D W L w) (i : Nat) {v : Value} {qs : List Pv} (hi : L[i]? = some (.many (PsR v qs))) (hn : 0 < qs.length) : ∃ g d, v = .slice (some ⟨g, 0, none⟩) qs.length d ∧ qs.length ≤ d ∧ HS D W (L.eraseIdx i ++ [.row (.slice (some ⟨g, 0, none⟩) qs.length d) 52 5 qs.length (qs.flatMap pvC), Item.many (qs.flatMap innerR)]) w := by
  have h1 := h.manyCons i hi
  have ho : w.ownsRow 0 52 5 v qs.length (qs.flatMap pvC) := h1.ok (outerR v qs) (by simp)
  obtain ⟨sb, d, rfl⟩ := ownsRow_slice ho
  obtain ⟨g, rfl, -, hc⟩ := ownsRow_ptr ho hn
  exact ⟨g, d, rfl, hc, h1⟩
theorem HS.pvForm (h : HS D W L w) (j : Nat) {qs : List Pv} (hj : L[j]? = some (.many (qs.flatMap innerR))) {k : Nat} (hk : k < qs.length) : ∃ pb pc tb tc, qs[k]! = ⟨(qs[k]!).p, .slice pb (qs[k]!).p.pages.length pc, .slice tb (qs[k]!).p.told.length tc⟩ := by
  obtain ⟨⟨sa, c, e1, -, -⟩, ⟨sa', c', e2, -, -⟩⟩ := innerAt (h.manyOks j hj) _ (mem_at hk)
  exact ⟨sa, c, sa', c', by rw [← e1, ← e2]⟩
end
end Go.Proofs.YtedbpmckgiifpaaGreat
