/- The statement PartRaw: its walk. -/
import Derived.Test.YtaeockopliplfaaDoorAgree
import Derived.Test.YtaeockopliplfaaDoorAwake
namespace Go.Proofs.YtaeockopliplfaaDoor
set_option linter.unusedSimpArgs false
set_option linter.unusedVariables false
open Go.RowKit
set_option maxRecDepth 100000
attribute [local go_sem] lt_more ne_more ne_more'

theorem raw_walk (a0 a1 a2 a3 a4 a5 k f0 f1 f2 f3 f4 f5 ch ms vl : Int) (hd : Bool) (n0 n1 : Int) (w : World) (hN : Nm w) :
    Calls Tryd.prog 6 #[v6 a0 a1 a2 a3 a4 a5, vF k f0 f1 f2 f3 f4 f5 ch ms vl hd, .agg #[.int .i64 n0, .int .i64 n1]] w (Gives (.bool true) w) := by
  have HN := Lib.hid hN
  clear hN
  go_enter Tryd.func6, Tryd.ntmps6
  have H := HS.start NoD w
  go_wp2_with fail
  refine (awake09 _ (HN.out.below H.alloc.alloc.alloc.done)).mono ?_
  rintro _ w1 ⟨rfl, hb⟩
  replace H := H.alloc.alloc.alloc.below hb
  clear hb
  try clear C
  try simp only [World.size_alloc, List.nil_append, List.cons_append, List.append_assoc] at H
  generalize w.heap.size + 2 = bn at H ⊢
  generalize w.heap.size + 1 = bF at H ⊢
  generalize w.heap.size = bS at H ⊢
  have C := H.cells
  try simp only [cellsOf, apartOf, and_true] at C
  dsimp only
  go_wp2_with fail
  refine (agree_yes _ _ _ _ _ _ _ _ _ _ _ _ _ _ _ _ _ _ _ _ _ _ _ _ _ _ (HN.out.below H.done)).mono ?_
  rintro _ w2 ⟨rfl, hb⟩
  replace H := H.below hb
  clear hb
  try clear C
  try simp only [World.size_alloc, List.nil_append, List.cons_append, List.append_assoc] at H
  try clear w1
  have C := H.cells
  try simp only [cellsOf, apartOf, and_true] at C
  dsimp only
  go_wp2_with fail
  go_ret
  exact ⟨rfl, H.done⟩
end Go.Proofs.YtaeockopliplfaaDoor
