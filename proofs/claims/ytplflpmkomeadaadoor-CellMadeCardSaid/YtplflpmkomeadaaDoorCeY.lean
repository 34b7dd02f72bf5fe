/- Chapter 13: awake. -/
import Derived.Test.YtplflpmkomeadaaDoorCeW
import Derived.Test.YtplflpmkomeadaaDoorCeV
namespace Go.Proofs.YtplflpmkomeadaaDoor
set_option linter.unusedSimpArgs false
set_option linter.unusedVariables false
open Go.RowKit
set_option maxRecDepth 100000
attribute [local irreducible] wpX wpF Calls

def M0a : Mm := ⟨0, 0, 0, 0, 1, 0, 2, 1, 1, 0, [], []⟩
def F0a : Fa := ⟨1, 0, 0, 0, 0, 0, 0, 0, 1, 1, true⟩
def M1a : Mm := ⟨0, 0, 0, 0, 1, 0, 2, 1, 1, 0, [], [F0a]⟩
theorem good0a : goodB M0a = true := by decide +kernel
theorem new0a : newF M0a = (M0a, 0) := by unfold newF; rw [good0a]; rfl
theorem inj0a : injF M0a F0a = (M1a, 0) := by
  unfold injF
  rw [good0a, if_pos rfl, show vfF M0a (M0a.dt + M0a.ck) F0a = true by decide +kernel, if_pos rfl, if_pos (show F0a.hd = true from rfl), if_neg (by decide), if_neg (by decide)]
  rfl
theorem fe0a : fetchF M1a 0 = (⟨0, [1, 0], false⟩, 0) := by decide +kernel
theorem fe1a : fetchF M1a 1 = (⟨1, [0, 0], false⟩, 0) := by decide +kernel
theorem small0a : SmallM M0a := ⟨by decide, by decide, fun x hx => absurd hx List.not_mem_nil⟩
theorem small1a : SmallM M1a := ⟨by decide, by decide, fun x hx => absurd hx List.not_mem_nil⟩
set_option maxHeartbeats 8000000 in
theorem awake13_any (w : World) (hNm : Nm w) : Calls Tryd.prog 10 #[] w (Gives (.bool true) w) := by
  have HNm := Lib.hid hNm
  clear hNm
  have HNW := Lib.hid (fun wx => (show Calls Tryd.prog 32 #[.agg #[.int .i64 0, .int .i64 0, .int .i64 0, .int .i64 0, .int .i64 1, .int .i64 0], .agg #[.int .i64 2, .int .i64 1, .int .i64 1, .int .i64 0]] wx (Gives (.tuple #[.agg #[.int .i64 0, .int .i64 0, .int .i64 0, .int .i64 0, .int .i64 1, .int .i64 0, .int .i64 2, .int .i64 1, .int .i64 1, .int .i64 0, .slice none 0 0, .slice none 0 0], .int .i64 0]) wx) from by
    have h9 := cnew_any M0a rfl rfl wx
    rw [new0a] at h9
    exact h9))
  have HIN := Lib.hid (fun wx hn hx => (show Calls Tryd.prog 15 #[.agg #[.int .i64 0, .int .i64 0, .int .i64 0, .int .i64 0, .int .i64 1, .int .i64 0, .int .i64 2, .int .i64 1, .int .i64 1, .int .i64 0, .slice none 0 0, .slice none 0 0], .agg #[.int .i64 1, .int .i64 0, .int .i64 0, .int .i64 0, .int .i64 0, .int .i64 0, .int .i64 0, .int .i64 0, .int .u8 1, .int .u8 1, .bool true]] wx (GivesMeE M1a 0 wx) from by
    have h9 := cinject_any M0a nilSv nilSv small0a F0a wx hn hx
    rw [inj0a] at h9
    exact h9))
  have HF0 := Lib.hid (fun (x y : Sv) wx hn hx => (show Calls Tryd.prog 25 #[meV M1a x y, .int .i64 0] wx (GivesCwRE ⟨0, [1, 0], false⟩ 0 wx) from by
    have h9 := cfetch13_any M1a x y small1a 0 wx hn hx
    rw [fe0a] at h9
    exact h9))
  have HF1 := Lib.hid (fun (x y : Sv) wx hn hx => (show Calls Tryd.prog 25 #[meV M1a x y, .int .i64 1] wx (GivesCwRE ⟨1, [0, 0], false⟩ 0 wx) from by
    have h9 := cfetch13_any M1a x y small1a 1 wx hn hx
    rw [fe1a] at h9
    exact h9))
  go_enter Tryd.func10, Tryd.ntmps10
  have H := HS.start NoD w
  go_wp2_with fail
  refine (HNW.out _).mono ?_
  rintro _ w1 ⟨rfl, hb⟩
  replace H := H.below hb
  clear hb
  try clear C
  try simp only [World.size_alloc, List.nil_append, List.cons_append, List.append_assoc] at H
  have C := H.cells
  try simp only [cellsOf, cellsM, apartOf, apartM, and_true] at C
  dsimp only
  clear HNW
  go_upto_region 2 with fail
  generalize hwb : w1.alloc _ = w2
  replace H := HS.eqW hwb H.alloc
  try simp only [World.size_alloc, List.nil_append, List.cons_append, List.append_assoc] at H
  clear hwb
  generalize w1.heap.size = b1 at H ⊢
  try clear C
  try clear w1
  have C := H.cells
  try simp only [cellsOf, cellsM, apartOf, apartM, and_true] at C
  go_wp2_with fail
  refine (HIN.out _ (HNm.out.below H.done) (meAt_nil _ rfl rfl)).mono ?_
  rintro _ w61 ⟨⟨pa, pn, pc⟩, ⟨ra, rn, rc⟩, qs, Fm, hqm, rfl, K0⟩
  clear HIN
  replace H := H.join K0 (one_low rfl)
  clear K0
  try simp only [List.nil_append, List.cons_append] at H
  skip
  try clear C
  try simp only [World.size_alloc, List.nil_append, List.cons_append, List.append_assoc] at H
  have C := H.cells
  try simp only [cellsOf, cellsM, apartOf, apartM, and_true] at C
  obtain rfl : rn = 1 := (H.says 1 rfl).2.1
  have HQM := Lib.hid hqm
  clear hqm
  try dsimp only [meV, M1a] at H ⊢
  try dsimp only [meV, M1a]
  go_upto_region 3 with fail
  generalize hwb : (((((((((((w61.setCell _ _).setCell _ _).setCell _ _).setCell _ _).setCell _ _).setCell _ _).setCell _ _).setCell _ _).setCell _ _).setCell _ _).setCell _ _).setCell _ _ = w3
  replace H := HS.eqW hwb (H.putAll (i := 0) rfl (vs := [.int .i64 0, .int .i64 0, .int .i64 0, .int .i64 0, .int .i64 1, .int .i64 0, .int .i64 2, .int .i64 1, .int .i64 1, .int .i64 0, .slice pa pn pc, .slice ra 1 rc]) rfl rfl)
  simp only [List.nil_append, List.cons_append, List.append_assoc, List.set_cons_succ, List.set_cons_zero] at H
  clear hwb
  try clear C
  try clear w61
  have C := H.cells
  try simp only [cellsOf, cellsM, apartOf, apartM, and_true] at C
  try clear C
  try simp only [World.size_alloc, List.nil_append, List.cons_append, List.append_assoc] at H
  have C := H.cells
  try simp only [cellsOf, cellsM, apartOf, apartM, and_true] at C
  go_wp2_with fail
  refine (HF0.out ⟨pa, pn, pc⟩ ⟨ra, 1, rc⟩ _ (HNm.out.below H.done) (meAt_of (m := M1a) HQM.out (H.says 1 rfl))).mono ?_
  rintro _ w62 ⟨s1, c1, rfl, K0⟩
  replace H := H.join K0 (one_low rfl)
  clear K0 HF0
  try simp only [List.nil_append, List.cons_append] at H
  skip
  try clear C
  try simp only [World.size_alloc, List.nil_append, List.cons_append, List.append_assoc] at H
  have C := H.cells
  try simp only [cellsOf, cellsM, apartOf, apartM, and_true] at C
  try dsimp only at H
  try dsimp only
  go_upto_region 4 with fail
  generalize hwb : w62.alloc _ = w4
  replace H := HS.eqW hwb H.alloc
  try simp only [World.size_alloc, List.nil_append, List.cons_append, List.append_assoc] at H
  clear hwb
  generalize w62.heap.size = b4 at H ⊢
  try clear C
  try clear w62
  have C := H.cells
  try simp only [cellsOf, cellsM, apartOf, apartM, and_true] at C
  go_wp2_with fail
  refine (HF1.out ⟨pa, pn, pc⟩ ⟨ra, 1, rc⟩ _ (HNm.out.below H.done) (meAt_of (m := M1a) HQM.out (H.says 1 rfl))).mono ?_
  rintro _ w63 ⟨s2, c2, rfl, K0⟩
  replace H := H.join K0 (one_low rfl)
  clear K0 HF1
  try simp only [List.nil_append, List.cons_append] at H
  skip
  try clear C
  try simp only [World.size_alloc, List.nil_append, List.cons_append, List.append_assoc] at H
  have C := H.cells
  try simp only [cellsOf, cellsM, apartOf, apartM, and_true] at C
  try dsimp only at H
  try dsimp only
  go_upto_region 5 with fail
  generalize hwb : w63.alloc _ = w5
  replace H := HS.eqW hwb H.alloc
  try simp only [World.size_alloc, List.nil_append, List.cons_append, List.append_assoc] at H
  clear hwb
  generalize w63.heap.size = b6 at H ⊢
  try clear C
  try clear w63
  have C := H.cells
  try simp only [cellsOf, cellsM, apartOf, apartM, and_true] at C
  obtain ⟨g1, c1', hv, -, -⟩ := World.ownsRow.form (H.at 2 rfl) (by decide)
  obtain ⟨rfl, -, rfl⟩ := Value.slice.inj hv
  clear hv
  obtain ⟨g2, c2', hv, -, -⟩ := World.ownsRow.form (H.at 4 rfl) (by decide)
  obtain ⟨rfl, -, rfl⟩ := Value.slice.inj hv
  clear hv
  have e1 : w5.cell? ⟨g1, 0, none⟩ = some (.int .u8 1) := (H.rowCells 2 rfl 0 (by decide)).1
  have e2 : w5.cell? ⟨g2, 0, none⟩ = some (.int .u8 0) := (H.rowCells 4 rfl 0 (by decide)).1
  go_wp2_with fail
  go_ret
  exact ⟨by first | rfl | go_simp, H.done⟩
end Go.Proofs.YtplflpmkomeadaaDoor
