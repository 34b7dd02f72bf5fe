/- The sanity check of the statements about ranks; the specification's Size and At for a valid shape. -/
import Derived.Test.YtaeockopliplfaaRanks
import Derived.Test.YtaeockopliplfaaRef4
namespace Go.Proofs.Ytaeockopliplfaa
set_option linter.unusedSimpArgs false
set_option linter.unusedVariables false
open Go.RowKit
set_option maxRecDepth 100000
attribute [local go_sem] lt_more ne_more ne_more'
attribute [local irreducible] wpX wpF

theorem rat_is {a0 a1 a2 a3 a4 a5 i : Int} (h : SV a0 a1 a2 a3 a4 a5) (hi0 : 0 ≤ i) (hi1 : i < 2 ^ (a0 + a1 + a2 + a3 + a4 + a5).toNat) (w : World) :
    Calls Try.prog 16 #[v6 a0 a1 a2 a3 a4 a5, .int .i64 i] w (Gives (.tuple #[v6P (atF a0 a1 a2 a3 a4 a5 i), .int .i64 0]) w) := by
  obtain ⟨x1, x2, x3, x4, x5, x6, h5, h4, h3, h2, h1, h0, hall⟩ := atF_steps h hi0 hi1
  exact rat_yes h hi0 hi1 h5 h4 h3 h2 h1 h0 w
theorem RS1 : RS 0 0 1 0 0 1 0 0 0 1 := ⟨by constructor <;> decide, by constructor <;> decide +kernel, by constructor <;> decide +kernel, by decide⟩
theorem awake38 (w : World) : Calls Try.prog 6 #[] w (Gives (.bool true) w) := by
  have r2 : rsz 0 0 1 = 2 := by decide +kernel
  have hw0 : ∀ w, Calls Try.prog 17 #[vS 0 0 1 0 0 1 0 0 0 1 0 true, .int .i64 0] w (Gives (.tuple #[.int .i64 0, .int .i64 0]) w) := fun w => by
    have := where_of (i := 0) RS1 (dn := 0) (by rw [r2]; decide) (by decide) (by decide +kernel) w
    rwa [show whF (rsz 0 0 1) (hi3 0 1 0 0 0) (hi3 0 1 0 0 1) 0 0 = 0 from by decide +kernel] at this
  have hw1 : ∀ w, Calls Try.prog 17 #[vS 0 0 1 0 0 1 0 0 0 1 1 true, .int .i64 0] w (Gives (.tuple #[.int .i64 2, .int .i64 0]) w) := fun w => by
    have := where_of (i := 0) RS1 (dn := 1) (by rw [r2]; decide) (by decide) (by decide +kernel) w
    rwa [show whF (rsz 0 0 1) (hi3 0 1 0 0 0) (hi3 0 1 0 0 1) 1 0 = 2 from by decide +kernel] at this
  have hw2 : ∀ w, Calls Try.prog 17 #[vS 0 0 1 0 0 1 0 0 0 1 1 true, .int .i64 1] w (Gives (.tuple #[.int .i64 1, .int .i64 0]) w) := fun w => by
    have := where_of (i := 1) RS1 (dn := 1) (by rw [r2]; decide) (by decide) (by decide +kernel) w
    rwa [show whF (rsz 0 0 1) (hi3 0 1 0 0 0) (hi3 0 1 0 0 1) 1 1 = 1 from by decide +kernel] at this
  have hc : ∀ w, Calls Try.prog 15 #[vS 0 0 1 0 0 1 0 0 0 1 0 true] w (Gives (.tuple #[vS 0 0 1 0 0 1 0 0 0 1 1 true, .int .i64 0]) w) := fun w => copied_yes RS1 (dn := 0) (by rw [r2]; decide) w
  have hn : ∀ w, Calls Try.prog 13 #[vS 0 0 1 0 0 1 0 0 0 1 0 true] w (Gives (.int .i64 2) w) := fun w => by
    have := words_of RS1 (dn := 0) (by rw [r2]; decide) w
    rwa [r2] at this
  have HS' := Lib.hid (fun w => start_of RS1 w)
  have HW0 := Lib.hid hw0
  have HW1 := Lib.hid hw1
  have HW2 := Lib.hid hw2
  have HC := Lib.hid hc
  have HN := Lib.hid hn
  clear hw0 hw1 hw2 hc hn r2
  go_enter Try.func6, Try.ntmps6
  have H := HS.start NoD w
  go_wp2_with fail
  refine (HS'.out _).mono ?_
  rintro _ w1 ⟨rfl, hb⟩
  replace H := H.below hb
  clear hb
  try clear C
  try simp only [World.size_alloc, List.nil_append, List.cons_append, List.append_assoc] at H
  have C := H.cells
  try simp only [cellsOf, apartOf, and_true] at C
  dsimp only
  go_wp2_with fail
  refine (HW0.out _).mono ?_
  rintro _ w2 ⟨rfl, hb⟩
  replace H := H.alloc.below hb
  clear hb
  try clear C
  try simp only [World.size_alloc, List.nil_append, List.cons_append, List.append_assoc] at H
  generalize w1.heap.size = bX at H ⊢
  try clear w1
  have C := H.cells
  try simp only [cellsOf, apartOf, and_true] at C
  dsimp only
  go_wp2_with fail
  refine (HC.out _).mono ?_
  rintro _ w3 ⟨rfl, hb⟩
  replace H := H.below hb
  clear hb
  try clear C
  try simp only [World.size_alloc, List.nil_append, List.cons_append, List.append_assoc] at H
  try clear w2
  have C := H.cells
  try simp only [cellsOf, apartOf, and_true] at C
  dsimp only
  go_wp2_with fail
  refine (HW1.out _).mono ?_
  rintro _ w4 ⟨rfl, hb⟩
  replace H := H.alloc.below hb
  clear hb
  try clear C
  try simp only [World.size_alloc, List.nil_append, List.cons_append, List.append_assoc] at H
  generalize w3.heap.size = bY at H ⊢
  try clear w3
  have C := H.cells
  try simp only [cellsOf, apartOf, and_true] at C
  dsimp only
  go_wp2_with fail
  refine (HW2.out _).mono ?_
  rintro _ w5 ⟨rfl, hb⟩
  replace H := H.below hb
  clear hb
  try clear C
  try simp only [World.size_alloc, List.nil_append, List.cons_append, List.append_assoc] at H
  try clear w4
  have C := H.cells
  try simp only [cellsOf, apartOf, and_true] at C
  dsimp only
  go_wp2_with fail
  refine (HN.out _).mono ?_
  rintro _ w6 ⟨rfl, hb⟩
  replace H := H.below hb
  clear hb
  try clear C
  try simp only [World.size_alloc, List.nil_append, List.cons_append, List.append_assoc] at H
  try clear w5
  have C := H.cells
  try simp only [cellsOf, apartOf, and_true] at C
  dsimp only
  go_wp2_with fail
  go_ret
  exact ⟨rfl, H.done⟩
end Go.Proofs.Ytaeockopliplfaa
