/- Package part: Covered. -/
import Derived.Test.YtplflpmkomeadaaDoorCov
namespace Go.Proofs.YtplflpmkomeadaaDoor
set_option linter.unusedSimpArgs false
set_option linter.unusedVariables false
open Go.RowKit
set_option maxRecDepth 100000
attribute [local go_sem] lt_more ne_more ne_more'

@[reducible] def v6P (p : P6) : Value := v6 p.a p.b p.c p.d p.e p.f
theorem at_is {a0 a1 a2 a3 a4 a5 i : Int} (h : SV a0 a1 a2 a3 a4 a5) (hi0 : 0 ≤ i) (hi1 : i < 2 ^ (a0 + a1 + a2 + a3 + a4 + a5).toNat) (w : World) :
    Calls Tryd.prog 18 #[v6 a0 a1 a2 a3 a4 a5, .int .i64 i] w (Gives (.tuple #[v6P (atF a0 a1 a2 a3 a4 a5 i), .int .i64 0]) w) := by
  obtain ⟨x1, x2, x3, x4, x5, x6, h5, h4, h3, h2, h1, h0, hall⟩ := atF_steps h hi0 hi1
  exact at_yes h hi0 hi1 h5 h4 h3 h2 h1 h0 w

def intV (n : Nat) : Value := .int .i64 n
/-- The value v is a slice of just these numbers, in memory from block B on. -/
def IntRow (w : World) (B : Nat) (v : Value) (l : List Nat) : Prop := w.ownsRow B 3 1 v l.length (l.map intV)
def GivesRow (l : List Nat) (w : World) (e : Ending) (w' : World) : Prop := ∃ v, e = .returned v ∧ IntRow w' w.heap.size v l ∧ Below w.heap.size w w'

/-- A slice of one's own stays so over whatever leaves all that was there. -/
theorem IntRow.below {w w' : World} {B : Nat} {v : Value} {l : List Nat} (h : IntRow w B v l) (hb : Below w.heap.size w w') : IntRow w' B v l := by
  obtain ⟨h1, h2⟩ := h
  refine ⟨h1, ?_⟩
  rcases h2 with h2 | ⟨g, cap, cur, hv, hg, hh, r⟩
  · exact .inl h2
  · exact .inr ⟨g, cap, cur, hv, hg, (hb.block g (lt_of_heap hh)).trans hh, r⟩
theorem IntRow.base {w : World} {B B' : Nat} {v : Value} {l : List Nat} (h : IntRow w B v l) (hb : B' ≤ B) : IntRow w B' v l := by
  obtain ⟨h1, h2⟩ := h
  refine ⟨h1, ?_⟩
  rcases h2 with h2 | ⟨g, cap, cur, hv, hg, hh, r⟩
  · exact .inl h2
  · exact .inr ⟨g, cap, cur, hv, by omega, hh, r⟩

theorem infoInt : (Tryd.prog.info? 3).map (fun i => (i.zero, i.size, i.bytes)) = some (some (.int .i64 0), 1, 8) := by kernel_rfl

end Go.Proofs.YtplflpmkomeadaaDoor
