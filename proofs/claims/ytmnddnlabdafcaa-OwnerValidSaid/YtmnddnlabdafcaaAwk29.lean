/- The example of chapter 29. -/
import Derived.Test.YtmnddnlabdafcaaOP7
import Derived.Test.YtmnddnlabdafcaaPGood2
namespace Go.Proofs.Ytmnddnlabdafcaa
set_option linter.unusedSimpArgs false
set_option linter.unusedVariables false
open Go.RowKit
set_option maxRecDepth 100000
attribute [local go_sem] lt_more ne_more ne_more'
attribute [local irreducible] wpX wpF Calls

def awP0 : List Pr := [⟨1, false, false, [], []⟩]
def awP1 : List Pr := [⟨1, false, false, [⟨3, 7, false⟩], []⟩]
def awP2 : List Pr := [⟨1, false, false, [⟨3, 7, true⟩], []⟩, ⟨2, false, false, [⟨3, 7, true⟩], []⟩]
def awP3 : List Pr := [⟨1, false, false, [⟨3, 8, false⟩], []⟩, ⟨2, false, false, [⟨3, 7, true⟩], []⟩]
def awP4 : List Pr := [⟨1, false, false, [⟨3, 8, false⟩], []⟩, ⟨2, false, false, [], []⟩]
theorem aw1 : mapP awP0 1 3 7 = (0, awP1) := by decide
theorem aw2 : forkP awP1 1 2 = (0, awP2) := by decide
theorem aw3 : ownP awP2 1 3 8 = (0, awP3, -1) := by decide
theorem aw4 : dropP awP3 2 3 = (0, awP4, 7) := by decide
theorem awG0 : GoodP 64 awP0 := ⟨by decide, fun p hp => by cases List.mem_singleton.1 hp; exact ⟨by decide, by decide, .nil, (fun x hx => by cases hx), .nil, (fun _ => rfl), by decide⟩, List.pairwise_singleton _ _, List.pairwise_singleton _ _⟩
theorem awG1 : GoodP 64 awP1 := (awG0.map (by decide) aw1).1
theorem awG2 : GoodP 64 awP2 := (awG1.fork aw2).1
theorem awG3 : GoodP 64 awP3 := (awG2.own (by decide) aw3).1
theorem HS.litP {D : Nat → Prop} {W w : World} {L : List Item} (h : HS D W L w) (i : Nat) {b : Nat} {id : Int} {t : TypeId} (hi : L[i]? = some (.blk b #[.int .i64 id, .bool false, .bool false, .slice none 0 0, .slice none 0 0] t)) : Ps w w.heap.size (.slice (some ⟨b, 0, none⟩) 1 1) [⟨id, false, false, [], []⟩] :=
  ⟨[⟨⟨id, false, false, [], []⟩, .slice none 0 0, .slice none 0 0⟩], rfl, ⟨_, 1, rfl, ⟨Nat.le_refl _, fun e => by cases e⟩, h.blkLies (xs := [(⟨⟨id, false, false, [], []⟩, .slice none 0 0, .slice none 0 0⟩ : Pv)]) i pvC_len hi rfl rfl⟩, fun q hq => by cases List.mem_singleton.1 hq; exact ⟨Sl.nil _ _ _ _, Sl.nil _ _ _ _⟩⟩
set_option maxHeartbeats 4000000 in
theorem awake29_any (w : World) : Calls Try.prog 14 #[] w (Gives (.bool true) w) := by
  have H1 := Lib.hid (fun v w h => omap_any 1 3 7 (v := v) awG0 w h)
  have H2 := Lib.hid (fun v w h => ofork_any 1 2 (v := v) awG1 w h)
  have H3 := Lib.hid (fun v w h => oown_any 1 3 8 (v := v) awG2 w h)
  have H4 := Lib.hid (fun v w h => odrop_any 2 3 (v := v) awG3 w h)
  have H5 := Lib.hid (fun v w h => ousers_any 7 (v := v) awG2.smallP w h)
  rw [aw1] at H1
  rw [aw2] at H2
  rw [aw3] at H3
  rw [aw4] at H4
  rw [show usersL awP2 7 = [(1, 3), (2, 3)] by decide] at H5
  go_enter Try.func14, Try.ntmps14
  have H := HS.start NoD w
  go_wp2_with fail
  refine (H1.out _ _ (H.alloc.litP 0 rfl)).mono ?_
  rintro _ w2 ⟨v2, r2, rfl, h2, K⟩
  replace H := H.alloc.join1 K
  clear K
  simp only [List.nil_append, List.cons_append] at H
  skip
  try clear C
  try simp only [World.size_alloc, List.nil_append, List.cons_append, List.append_assoc] at H
  have C := H.cells
  try simp only [cellsOf, cellsM, apartOf, apartM, and_true] at C
  dsimp only
  go_wp2_with fail
  refine (H2.out _ _ (by have := H.ownPs 1 rfl; rw [h2] at this; exact this)).mono ?_
  rintro _ w3 ⟨v3, r3, rfl, h3, K⟩
  replace H := H.join1 K
  clear K
  simp only [List.nil_append, List.cons_append] at H
  skip
  try clear C
  try simp only [World.size_alloc, List.nil_append, List.cons_append, List.append_assoc] at H
  have C := H.cells
  try simp only [cellsOf, cellsM, apartOf, apartM, and_true] at C
  dsimp only
  go_wp2_with fail
  refine (H3.out _ _ (by have := H.ownPs 2 rfl; rw [h3] at this; exact this)).mono ?_
  rintro _ w4 ⟨v4, r4, rfl, h4, K⟩
  replace H := H.join1 K
  clear K
  simp only [List.nil_append, List.cons_append] at H
  skip
  try clear C
  try simp only [World.size_alloc, List.nil_append, List.cons_append, List.append_assoc] at H
  have C := H.cells
  try simp only [cellsOf, cellsM, apartOf, apartM, and_true] at C
  dsimp only
  go_wp2_with fail
  refine (H4.out _ _ (by have := H.ownPs 3 rfl; rw [h4] at this; exact this)).mono ?_
  rintro _ w5 ⟨v5, r5, rfl, h5, K⟩
  replace H := H.join1 K
  clear K
  simp only [List.nil_append, List.cons_append] at H
  obtain ⟨sb, d5, rfl⟩ : ∃ sb d, v5 = .slice sb r5.length d := by
    have H' := H.manyCons 4 rfl
    simp only [List.eraseIdx_cons_zero, List.eraseIdx_cons_succ, List.nil_append, List.cons_append, outerR] at H'
    exact ownsRow_slice (H'.at 4 rfl)
  have hl5 : r5.length = 2 := by have := congrArg List.length h5; simpa [awP4] using this
  rw [hl5]
  skip
  try clear C
  try simp only [World.size_alloc, List.nil_append, List.cons_append, List.append_assoc] at H
  have C := H.cells
  try simp only [cellsOf, cellsM, apartOf, apartM, and_true] at C
  dsimp only
  go_wp2_with fail
  refine (H5.out _ _ (by have := H.ownPs 2 rfl; rw [h3] at this; exact this)).mono ?_
  rintro _ w6 ⟨sa, c, rfl, hr, hb⟩
  replace H := H.below hb
  clear hr hb
  skip
  try clear C
  try simp only [World.size_alloc, List.nil_append, List.cons_append, List.append_assoc] at H
  have C := H.cells
  try simp only [cellsOf, cellsM, apartOf, apartM, and_true] at C
  dsimp only
  go_wp2_with fail
  go_ret
  exact ⟨rfl, H.done⟩
end Go.Proofs.Ytmnddnlabdafcaa
