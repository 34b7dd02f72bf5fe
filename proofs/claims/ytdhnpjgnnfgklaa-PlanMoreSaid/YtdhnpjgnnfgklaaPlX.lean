/- Plan (chapter 39): the law's awake. -/
import Derived.Test.YtdhnpjgnnfgklaaPlW
namespace Go.Proofs.Ytdhnpjgnnfgklaa
set_option linter.unusedSimpArgs false
set_option linter.unusedVariables false
open Go.RowKit
set_option maxRecDepth 100000
attribute [local irreducible] wpX wpF Calls
attribute [local go_sem] run_mkMapG

def awL : List Nd := [⟨⟨0, 0, 0, 0, 0, 0⟩, 5⟩, ⟨⟨0, 0, 0, 0, 1, 0⟩, 6⟩, ⟨⟨0, 0, 0, 1, 0, 0⟩, 7⟩]
theorem aw0 : bestP awL 1 0 = ⟨[1, 2], [], 13⟩ := by decide +kernel
theorem aw1 : bestP awL 1 1 = ⟨[], [⟨0, 0, 0, 0, 0, 0⟩], 18⟩ := by decide +kernel
theorem awV : validN ⟨0, 0, 0, 1, 1, 0⟩ awL := by
  refine ⟨?_, by decide, fun i hi => ?_⟩
  · constructor <;> decide
  · have hi : i < 3 := hi
    have : i = 0 ∨ i = 1 ∨ i = 2 := by omega
    rcases this with rfl | rfl | rfl
    all_goals
      refine ⟨by constructor <;> decide, rfl, by decide, by decide, ?_⟩
      decide
def AwP0 (w : World) (e : Ending) (w' : World) : Prop := ∃ (sk : Option Addr) (ck : Nat) (sr : Option Addr) (cr : Nat), e = .returned (.tuple #[.agg #[.slice sr 2 cr, .slice sk 0 ck, .int .i64 13], .int .i64 0]) ∧
    HS NoD w [.row (.slice sk 0 ck) 39 6 0 [], .row (.slice sr 2 cr) 3 1 2 (([1, 2] : List Int).flatMap iC)] w'
def AwP1 (w : World) (e : Ending) (w' : World) : Prop := ∃ (sk : Option Addr) (ck : Nat) (sr : Option Addr) (cr : Nat), e = .returned (.tuple #[.agg #[.slice sr 0 cr, .slice sk 1 ck, .int .i64 18], .int .i64 0]) ∧
    HS NoD w [.row (.slice sk 1 ck) 39 6 1 (([⟨0, 0, 0, 0, 0, 0⟩] : List P6).flatMap pC), .row (.slice sr 0 cr) 3 1 0 []] w'
theorem pb0 {sa : Option Addr} (w : World) (hl : Lies w w.heap.size sa 7 3 (fun j => ndC awL[j]!)) : Calls Try.prog 13 #[v6 0 0 0 1 1 0, .slice sa 3 3, .int .i64 1, .int .i64 0] w (AwP0 w) := by
  have h := pBest_any 0 0 0 1 1 0 (sa := sa) 3 (l := awL) (by decide) (by decide) 1 0 w hl
  rw [show bestV ⟨0, 0, 0, 1, 1, 0⟩ awL 1 0 = (⟨[1, 2], [], 13⟩, 0) from by unfold bestV; rw [if_pos awV, if_pos (by decide), aw0]] at h
  refine h.mono ?_
  rintro _ w' ⟨sk, ck, sr, cr, rfl, K⟩
  exact ⟨sk, ck, sr, cr, rfl, K⟩
theorem pb1 {sa : Option Addr} (w : World) (hl : Lies w w.heap.size sa 7 3 (fun j => ndC awL[j]!)) : Calls Try.prog 13 #[v6 0 0 0 1 1 0, .slice sa 3 3, .int .i64 1, .int .i64 1] w (AwP1 w) := by
  have h := pBest_any 0 0 0 1 1 0 (sa := sa) 3 (l := awL) (by decide) (by decide) 1 1 w hl
  rw [show bestV ⟨0, 0, 0, 1, 1, 0⟩ awL 1 1 = (⟨[], [⟨0, 0, 0, 0, 0, 0⟩], 18⟩, 0) from by unfold bestV; rw [if_pos awV, if_pos (by decide), aw1]] at h
  refine h.mono ?_
  rintro _ w' ⟨sk, ck, sr, cr, rfl, K⟩
  exact ⟨sk, ck, sr, cr, rfl, K⟩
theorem pf0 {sa sr sk : Option Addr} (cr ck : Nat) (w : World) (hl : Lies w w.heap.size sa 7 3 (fun j => ndC awL[j]!)) (hlr : Lies w w.heap.size sr 1 2 (fun j => iC (([1, 2] : List Int)[j]!))) : Calls Try.prog 22 #[v6 0 0 0 1 1 0, .slice sa 3 3, .int .i64 1, .int .i64 0, .agg #[.slice sr 2 cr, .slice sk 0 ck, .int .i64 13]] w (Gives (.bool true) w) := by
  refine pfits_rows 0 0 0 1 1 0 (sa := sa) 3 (l := awL) awV (by decide) 1 0 (by decide) (by decide) cr ck (rows := [1, 2]) 13 (by decide) (fun i hi => ?_) (fun i hi => ?_) (by decide +kernel) (by decide +kernel) w hl hlr
  · have hi : i < 2 := hi
    have : i = 0 ∨ i = 1 := by omega
    rcases this with rfl | rfl <;> decide
  · have hi : i + 1 < 2 := hi
    have : i = 0 := by omega
    subst this; decide
theorem two_low {A B : Item} (h : A.low = 0) (h2 : B.low = 0) : ∀ X ∈ [A, B], X.low = 0 := fun X hX => by
  simp only [List.mem_cons, List.mem_nil_iff, or_false] at hX
  rcases hX with rfl | rfl
  · exact h
  · exact h2
set_option maxHeartbeats 8000000 in
theorem awake39_any (w : World) : Calls Try.prog 8 #[] w (Gives (.bool true) w) := by
  go_enter Try.func8, Try.ntmps8
  have H := HS.start NoD w
  go_upto_region 2 with fail
  generalize hwb : w.alloc _ = w1
  replace H := HS.eqW hwb H.alloc
  try simp only [World.size_alloc, List.nil_append, List.cons_append, List.append_assoc] at H
  clear hwb
  generalize w.heap.size = bS at H ⊢
  try clear C
  have C := H.cells
  try simp only [cellsOf, cellsM, apartOf, apartM, and_true] at C
  go_upto_region 3 with fail
  generalize hwb : w1.alloc _ = w2
  replace H := HS.eqW hwb H.alloc
  try simp only [World.size_alloc, List.nil_append, List.cons_append, List.append_assoc] at H
  clear hwb
  generalize w1.heap.size = bL at H ⊢
  try clear C
  try clear w1
  have C := H.cells
  try simp only [cellsOf, cellsM, apartOf, apartM, and_true] at C
  go_wp2_with fail
  refine (pb0 _ (H.blkLies 1 ndC_len (xs := awL) rfl rfl rfl)).mono ?_
  rintro _ wa ⟨sk, ck, sr, cr, rfl, K⟩
  replace H := H.join K (two_low rfl rfl)
  clear K
  try simp only [List.nil_append, List.cons_append] at H
  skip
  try clear C
  try simp only [World.size_alloc, List.nil_append, List.cons_append, List.append_assoc] at H
  have C := H.cells
  try simp only [cellsOf, cellsM, apartOf, apartM, and_true] at C
  dsimp only
  go_upto_region 4 with fail
  generalize hwb : wa.alloc _ = w3
  replace H := HS.eqW hwb H.alloc
  try simp only [World.size_alloc, List.nil_append, List.cons_append, List.append_assoc] at H
  clear hwb
  generalize wa.heap.size = b3 at H ⊢
  try clear C
  try clear wa
  have C := H.cells
  try simp only [cellsOf, cellsM, apartOf, apartM, and_true] at C
  go_wp2_with fail
  refine (pb1 _ (H.blkLies 1 ndC_len (xs := awL) rfl rfl rfl)).mono ?_
  rintro _ wb ⟨sk2, ck2, sr2, cr2, rfl, K⟩
  replace H := H.join K (two_low rfl rfl)
  clear K
  try simp only [List.nil_append, List.cons_append] at H
  skip
  try clear C
  try simp only [World.size_alloc, List.nil_append, List.cons_append, List.append_assoc] at H
  have C := H.cells
  try simp only [cellsOf, cellsM, apartOf, apartM, and_true] at C
  dsimp only
  go_upto_region 5 with fail
  generalize hwb : wb.alloc _ = w4
  replace H := HS.eqW hwb H.alloc
  try simp only [World.size_alloc, List.nil_append, List.cons_append, List.append_assoc] at H
  clear hwb
  generalize wb.heap.size = b5 at H ⊢
  try clear C
  try clear wb
  have C := H.cells
  try simp only [cellsOf, cellsM, apartOf, apartM, and_true] at C
  go_wp2_with fail
  refine (pf0 cr ck _ (H.blkLies 1 ndC_len (xs := awL) rfl rfl rfl) (H.rowLies 3 iC_len (xs := [1, 2]) rfl rfl)).mono ?_
  rintro _ wc ⟨rfl, hb⟩
  replace H := H.below hb
  clear hb
  skip
  try clear C
  try simp only [World.size_alloc, List.nil_append, List.cons_append, List.append_assoc] at H
  have C := H.cells
  try simp only [cellsOf, cellsM, apartOf, apartM, and_true] at C
  go_wp2_with fail
  go_ret
  exact ⟨rfl, H.done⟩
end Go.Proofs.Ytdhnpjgnnfgklaa
