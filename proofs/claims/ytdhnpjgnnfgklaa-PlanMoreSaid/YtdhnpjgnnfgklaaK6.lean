/- Several texts in one: Ref, Ref2, Ref3, Ref4, Ref5, Ref7, Ref8, Ref9. -/
import Derived.Test.YtdhnpjgnnfgklaaK5
import Derived.LoopTactic
import Derived.Test.YtdhnpjgnnfgklaaCov
import Derived.Test.YtdhnpjgnnfgklaaK1
/- The specification of layer 9 (memfaultref09): bits, Numbers, Valid, Bits, Size. -/
namespace Go.Proofs.Ytdhnpjgnnfgklaa
set_option linter.unusedSimpArgs false
set_option linter.unusedVariables false
open Go.RowKit
set_option maxRecDepth 100000
attribute [local go_sem] lt_more ne_more ne_more' ix0 ix1 ix2 ix3 ix4 ix5

end Go.Proofs.Ytdhnpjgnnfgklaa

/- The specification of layer 9 (memfaultref09): Size, ValidPlace. -/
namespace Go.Proofs.Ytdhnpjgnnfgklaa
set_option linter.unusedSimpArgs false
set_option linter.unusedVariables false
open Go.RowKit
set_option maxRecDepth 100000
attribute [local go_sem] lt_more ne_more ne_more'

theorem validPlace_no {a0 a1 a2 a3 a4 a5 p0 p1 p2 p3 p4 p5 : Int} (h : ¬ SV a0 a1 a2 a3 a4 a5) (w : World) : Calls Try.prog 40 #[v6 a0 a1 a2 a3 a4 a5, v6 p0 p1 p2 p3 p4 p5] w (Gives (.bool false) w) := by
  go_enter Try.func40, Try.ntmps40
  go_wp2_with (go_at_call 39; refine (valid_no h _).mono ?_; rintro _ w1 ⟨rfl, hb1⟩; have hzw1 := hb1.size; (try simp only [World.size_alloc, World.size_setCell, World.size_drew] at hzw1); have cw1_0 := fun o => hb1.cell (p := ⟨w.heap.size, o, none⟩) (by dsimp only; (try simp only [World.size_alloc, World.size_setCell, World.size_drew]); omega); have fw1_0 := fun o => hb1.frozen (p := ⟨w.heap.size, o, none⟩) (by dsimp only; (try simp only [World.size_alloc, World.size_setCell, World.size_drew]); omega); have lw1_0 : w.heap.size < w1.heap.size := (by omega); have nw1_0 : (w.heap.size = w1.heap.size) = False := eq_false (by omega); have mw1_0 : (w1.heap.size = w.heap.size) = False := eq_false (by omega); have cw1_1 := fun o => hb1.cell (p := ⟨w.heap.size + 1, o, none⟩) (by dsimp only; (try simp only [World.size_alloc, World.size_setCell, World.size_drew]); omega); have fw1_1 := fun o => hb1.frozen (p := ⟨w.heap.size + 1, o, none⟩) (by dsimp only; (try simp only [World.size_alloc, World.size_setCell, World.size_drew]); omega); have lw1_1 : w.heap.size + 1 < w1.heap.size := (by omega); have nw1_1 : (w.heap.size + 1 = w1.heap.size) = False := eq_false (by omega); have mw1_1 : (w1.heap.size = w.heap.size + 1) = False := eq_false (by omega))
  go_ret
  exact ⟨rfl, (((Below.refl _ _).alloc (Nat.le_refl _) _).alloc (by simp) _).trans (hb1.mono (by simp; omega))⟩
/-- The i-th of six numbers. -/
def pick6 (a0 a1 a2 a3 a4 a5 : Int) : Nat → Int
  | 0 => a0
  | 1 => a1
  | 2 => a2
  | 3 => a3
  | 4 => a4
  | _ => a5
attribute [local irreducible] wpX
end Go.Proofs.Ytdhnpjgnnfgklaa

/- The specification of layer 9 (memfaultref09): Index. -/
namespace Go.Proofs.Ytdhnpjgnnfgklaa
set_option linter.unusedSimpArgs false
set_option linter.unusedVariables false
open Go.RowKit
set_option maxRecDepth 100000
attribute [local go_sem] lt_more ne_more ne_more'
attribute [local irreducible] wpX

end Go.Proofs.Ytdhnpjgnnfgklaa

/- The specification of layer 9 (memfaultref09): At. -/
namespace Go.Proofs.Ytdhnpjgnnfgklaa
set_option linter.unusedSimpArgs false
set_option linter.unusedVariables false
open Go.RowKit
set_option maxRecDepth 100000
attribute [local go_sem] lt_more ne_more ne_more'

theorem AtEq.le {b x y m : Int} (h : AtEq b x y m) (hx : 0 ≤ x) : 0 ≤ y ∧ y ≤ x := by
  rw [← h.div]
  have := pw_pos b
  exact ⟨Int.ediv_nonneg hx (by omega), Int.ediv_le_self _ hx⟩

end Go.Proofs.Ytdhnpjgnnfgklaa

/- The specification of layer 9 (memfaultref09) and package part: Index and At on what is not valid; which numbers a kind names. -/
namespace Go.Proofs.Ytdhnpjgnnfgklaa
set_option linter.unusedSimpArgs false
set_option linter.unusedVariables false
open Go.RowKit
set_option maxRecDepth 100000
attribute [local go_sem] lt_more ne_more ne_more'

end Go.Proofs.Ytdhnpjgnnfgklaa

/- The specification of layer 9 (memfaultref09): which numbers a kind names, Covers. -/
namespace Go.Proofs.Ytdhnpjgnnfgklaa
set_option linter.unusedSimpArgs false
set_option linter.unusedVariables false
open Go.RowKit
set_option maxRecDepth 100000
attribute [local go_sem] lt_more ne_more ne_more'
attribute [local irreducible] wpX

end Go.Proofs.Ytdhnpjgnnfgklaa

/- The specification of layer 9 (memfaultref09): Covers. -/
namespace Go.Proofs.Ytdhnpjgnnfgklaa
set_option linter.unusedSimpArgs false
set_option linter.unusedVariables false
open Go.RowKit
set_option maxRecDepth 100000
attribute [local go_sem] lt_more ne_more ne_more'
attribute [local irreducible] wpX

end Go.Proofs.Ytdhnpjgnnfgklaa

/- Package part and the specification of layer 9: ValidFault. -/
namespace Go.Proofs.Ytdhnpjgnnfgklaa
set_option linter.unusedSimpArgs false
set_option linter.unusedVariables false
open Go.RowKit
set_option maxRecDepth 100000
attribute [local go_sem] lt_more ne_more ne_more'
attribute [local irreducible] wpX

/-- Is it a valid place, of a valid shape? -/
theorem validPlace_all (a0 a1 a2 a3 a4 a5 p0 p1 p2 p3 p4 p5 : Int) (w : World) : Calls Try.prog 40 #[v6 a0 a1 a2 a3 a4 a5, v6 p0 p1 p2 p3 p4 p5] w (Gives (.bool (decide (SV a0 a1 a2 a3 a4 a5 ∧ PV a0 a1 a2 a3 a4 a5 p0 p1 p2 p3 p4 p5))) w) := by
  by_cases h : SV a0 a1 a2 a3 a4 a5
  · have := validPlace_any (p0 := p0) (p1 := p1) (p2 := p2) (p3 := p3) (p4 := p4) (p5 := p5) h w
    simpa [h] using this
  · have := validPlace_no (p0 := p0) (p1 := p1) (p2 := p2) (p3 := p3) (p4 := p4) (p5 := p5) h w
    simpa [h] using this
/-- The numbers of a place that a fault of kind k does not name are 0. -/
def Unnamed (k p0 p1 p2 p3 p4 p5 : Int) : Prop := ∀ i, i < 6 → nmB k i = false → pick6 p0 p1 p2 p3 p4 p5 i = 0
instance (k p0 p1 p2 p3 p4 p5 : Int) : Decidable (Unnamed k p0 p1 p2 p3 p4 p5) := by unfold Unnamed; infer_instance

end Go.Proofs.Ytdhnpjgnnfgklaa
