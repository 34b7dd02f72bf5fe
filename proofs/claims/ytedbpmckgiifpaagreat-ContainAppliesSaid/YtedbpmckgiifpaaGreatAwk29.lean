/- The example of chapter 29. -/
import Derived.Test.YtedbpmckgiifpaaGreatOP7
import Derived.Test.YtedbpmckgiifpaaGreatPGood2
namespace Go.Proofs.YtedbpmckgiifpaaGreat
set_option linter.unusedSimpArgs false
set_option linter.unusedVariables false
open Go.RowKit
set_option maxRecDepth 100000
attribute [local go_sem] lt_more ne_more ne_more'
attribute [local irreducible] wpX wpF Calls

def awP0 : List Pr := [⟨1, false, false, [], []⟩]
def awP1 : List Pr := [⟨1, false, false, [⟨3, 7, false⟩], []⟩]
def awP2 : List Pr := [⟨1, false, false, [⟨3, 7, true⟩], []⟩, ⟨2, false, false, [⟨3, 7, true⟩], []⟩]
def awP3 : List Pr := [⟨1, false, false, [⟨3, 8, false⟩], []⟩, ⟨2, false, false, [⟨3, 7, true⟩], []⟩]
def awP4 : List Pr := [⟨1, false, false, [⟨3, 8, false⟩], []⟩, ⟨2, false, false, [], []⟩]
theorem aw1 : mapP awP0 1 3 7 = (0, awP1) := by decide
theorem aw2 : forkP awP1 1 2 = (0, awP2) := by decide
theorem aw3 : ownP awP2 1 3 8 = (0, awP3, -1) := by decide
theorem aw4 : dropP awP3 2 3 = (0, awP4, 7) := by decide
theorem awG0 : GoodP 64 awP0 := ⟨by decide, fun p hp => by cases List.mem_singleton.1 hp; exact ⟨by decide, by decide, .nil, (fun x hx => by cases hx), .nil, (fun _ => rfl), by decide⟩, List.pairwise_singleton _ _, List.pairwise_singleton _ _⟩
theorem awG1 : GoodP 64 awP1 := (awG0.map (by decide) aw1).1
theorem awG2 : GoodP 64 awP2 := (awG1.fork aw2).1
theorem awG3 : GoodP 64 awP3 := (awG2.own (by decide) aw3).1
theorem HS.litP {D : Nat → Prop} {W w : World} {L : List Item} (h : HS D W L w) (i : Nat) {b : Nat} {id : Int} {t : TypeId} (hi : L[i]? = some (.blk b #[.int .i64 id, .bool false, .bool false, .slice none 0 0, .slice none 0 0] t)) : Ps w w.heap.size (.slice (some ⟨b, 0, none⟩) 1 1) [⟨id, false, false, [], []⟩] :=
  ⟨[⟨⟨id, false, false, [], []⟩, .slice none 0 0, .slice none 0 0⟩], rfl, ⟨_, 1, rfl, ⟨Nat.le_refl _, fun e => by cases e⟩, h.blkLies (xs := [(⟨⟨id, false, false, [], []⟩, .slice none 0 0, .slice none 0 0⟩ : Pv)]) i pvC_len hi rfl rfl⟩, fun q hq => by cases List.mem_singleton.1 hq; exact ⟨Sl.nil _ _ _ _, Sl.nil _ _ _ _⟩⟩
end Go.Proofs.YtedbpmckgiifpaaGreat
