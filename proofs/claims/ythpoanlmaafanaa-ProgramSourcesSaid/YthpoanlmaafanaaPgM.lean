/- Operations of programs: which mean something. -/
import Derived.Test.YthpoanlmaafanaaPgA
namespace Go.Proofs.Ythpoanlmaafanaa
set_option linter.unusedSimpArgs false
set_option linter.unusedVariables false
open Go.RowKit
set_option maxRecDepth 100000
attribute [local irreducible] wpX wpF Calls

theorem means_any (x : Ox) (w : World) : Calls Try.prog 22 #[vOx x] w (Gives (.bool (meansO x)) w) := by
  have HV := Lib.hid (fun w => pvalid_any (max 1 (x.n : Int)) x w)
  have hm : validO (max 1 (x.n : Int)) x = meansO x := rfl
  rw [hm] at HV
  generalize meansO x = b at HV ⊢
  clear hm
  obtain ⟨k, p, g, wd, ot, sa, n, c⟩ := x
  have HV := Lib.hid (fun w => (show Calls Try.prog 19 #[.int .i64 (max 1 (n : Int)), .agg #[.int .i64 k, .int .i64 p, .int .i64 g, .int .i64 wd, .int .i64 ot, .slice sa n c]] w (Gives (.bool b) w) from HV.out w))
  show Calls Try.prog 22 #[.agg #[.int .i64 k, .int .i64 p, .int .i64 g, .int .i64 wd, .int .i64 ot, .slice sa n c]] w _
  obtain ⟨mm, hmm⟩ : ∃ m, m = max 1 (n : Int) := ⟨_, rfl⟩
  rw [← hmm] at HV
  by_cases h1 : n ≤ 1
  · have hm1 : mm = 1 := by omega
    have h1i : ¬ (1 : Int) < n := by omega
    have h1j : (n : Int) ≤ 1 := by omega
    have h1k : max 1 (n : Int) = 1 := by omega
    subst hm1
    clear hmm
    go_enter Try.func22, Try.ntmps22
    have H := HS.start NoD w
    go_upto_region 1 with fail
    generalize hwb : w.alloc _ = w1
    replace H := HS.eqW hwb H.alloc
    try simp only [World.size_alloc, List.nil_append, List.cons_append, List.append_assoc] at H
    clear hwb
    generalize w.heap.size = bX at H ⊢
    try clear C
    have C := H.cells
    try simp only [cellsOf, cellsM, apartOf, apartM, and_true] at C
    go_wp2_with fail
    refine (HV.out _).mono ?_
    rintro _ w2 ⟨rfl, hb⟩
    replace H := H.below hb
    clear hb
    try clear C
    try simp only [World.size_alloc, List.nil_append, List.cons_append, List.append_assoc] at H
    try clear w1
    have C := H.cells
    try simp only [cellsOf, cellsM, apartOf, apartM, and_true] at C
    dsimp only
    go_wp2_with fail
    go_ret
    exact ⟨rfl, H.done⟩
  · have hm1 : mm = n := by omega
    have h1i : (1 : Int) < n := by omega
    have h1j : ¬ (n : Int) ≤ 1 := by omega
    have h1k : max 1 (n : Int) = n := by omega
    subst hm1
    clear hmm
    go_enter Try.func22, Try.ntmps22
    have H := HS.start NoD w
    go_upto_region 1 with fail
    generalize hwb : w.alloc _ = w1
    replace H := HS.eqW hwb H.alloc
    try simp only [World.size_alloc, List.nil_append, List.cons_append, List.append_assoc] at H
    clear hwb
    generalize w.heap.size = bX at H ⊢
    try clear C
    have C := H.cells
    try simp only [cellsOf, cellsM, apartOf, apartM, and_true] at C
    go_wp2_with fail
    refine (HV.out _).mono ?_
    rintro _ w2 ⟨rfl, hb⟩
    replace H := H.below hb
    clear hb
    try clear C
    try simp only [World.size_alloc, List.nil_append, List.cons_append, List.append_assoc] at H
    try clear w1
    have C := H.cells
    try simp only [cellsOf, cellsM, apartOf, apartM, and_true] at C
    dsimp only
    go_wp2_with fail
    go_ret
    exact ⟨rfl, H.done⟩
end Go.Proofs.Ythpoanlmaafanaa
