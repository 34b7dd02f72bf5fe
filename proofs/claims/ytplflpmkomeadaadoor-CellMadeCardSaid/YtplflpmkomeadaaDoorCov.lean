/- Package part: Covers. -/
import Derived.Test.YtplflpmkomeadaaDoorK5
namespace Go.Proofs.YtplflpmkomeadaaDoor
set_option linter.unusedSimpArgs false
set_option linter.unusedVariables false
open Go.RowKit
set_option maxRecDepth 100000
attribute [local go_sem] lt_more ne_more ne_more' ix0 ix1 ix2 ix3 ix4 ix5

theorem jx0 (a b c d e f : Value) (w : World) : (Instr.index 86 (.agg #[a, b, c, d, e, f]) (.int .i64 0)).run Tryd.prog w = .ok a w := by kernel_rfl
theorem jx1 (a b c d e f : Value) (w : World) : (Instr.index 86 (.agg #[a, b, c, d, e, f]) (.int .i64 1)).run Tryd.prog w = .ok b w := by kernel_rfl
theorem jx2 (a b c d e f : Value) (w : World) : (Instr.index 86 (.agg #[a, b, c, d, e, f]) (.int .i64 2)).run Tryd.prog w = .ok c w := by kernel_rfl
theorem jx3 (a b c d e f : Value) (w : World) : (Instr.index 86 (.agg #[a, b, c, d, e, f]) (.int .i64 3)).run Tryd.prog w = .ok d w := by kernel_rfl
theorem jx4 (a b c d e f : Value) (w : World) : (Instr.index 86 (.agg #[a, b, c, d, e, f]) (.int .i64 4)).run Tryd.prog w = .ok e w := by kernel_rfl
theorem jx5 (a b c d e f : Value) (w : World) : (Instr.index 86 (.agg #[a, b, c, d, e, f]) (.int .i64 5)).run Tryd.prog w = .ok f w := by kernel_rfl
attribute [local go_sem] jx0 jx1 jx2 jx3 jx4 jx5

/-- Which numbers of its place a fault of kind k names. -/
def nmB (k : Int) (i : Nat) : Bool := match i with
  | 0 => true
  | 1 => true
  | 2 => decide (k ≤ 5)
  | 3 => decide (k ≤ 4)
  | 4 => decide (k ≤ 2)
  | 5 => decide (k = 1) || decide (k = 3)
  | _ => false
/-- The table of the package lies in its variable. -/
def Nm (w : World) : Prop := ∀ (k : Nat), 1 ≤ k → k ≤ 6 → ∀ i, i < 6 → w.cell? ⟨0, 6 * k + i, none⟩ = some (.bool (nmB k i))
/-- A fault of kind k at the place p covers the place q. -/
structure CV (k p0 p1 p2 p3 p4 p5 q0 q1 q2 q3 q4 q5 : Int) : Prop where
  h0 : p0 = q0
  h1 : p1 = q1
  h2 : k ≤ 5 → p2 = q2
  h3 : k ≤ 4 → p3 = q3
  h4 : k ≤ 2 → p4 = q4
  h5 : k = 1 ∨ k = 3 → p5 = q5
instance (k p0 p1 p2 p3 p4 p5 q0 q1 q2 q3 q4 q5 : Int) : Decidable (CV k p0 p1 p2 p3 p4 p5 q0 q1 q2 q3 q4 q5) :=
  decidable_of_iff (p0 = q0 ∧ p1 = q1 ∧ (k ≤ 5 → p2 = q2) ∧ (k ≤ 4 → p3 = q3) ∧ (k ≤ 2 → p4 = q4) ∧ (k = 1 ∨ k = 3 → p5 = q5))
    ⟨fun ⟨a, b, c, d, e, f⟩ => ⟨a, b, c, d, e, f⟩, fun ⟨a, b, c, d, e, f⟩ => ⟨a, b, c, d, e, f⟩⟩
theorem Nm.below {w w' : World} (h : Nm w) (hb : Below w.heap.size w w') : Nm w' := fun k h1 h2 i hi => by
  have := h k h1 h2 i hi
  have hlt := World.block_lt_of_cell? (w := w) (a := ⟨0, 6 * k + i, none⟩) this
  rw [hb.cell (p := ⟨0, 6 * k + i, none⟩) hlt]
  exact this
theorem Nm.lt {w : World} (h : Nm w) : 0 < w.heap.size := World.block_lt_of_cell? (w := w) (a := ⟨0, 6, none⟩) (h 1 (by decide) (by decide) 0 (by decide))

theorem known_yes (k : Int) (hk : 1 ≤ k ∧ k ≤ 6) (w : World) : Calls Tryd.prog 56 #[.int .i64 k] w fun e w' => e = .returned (.bool true) ∧ w = w' := by
  go_enter Tryd.func56, Tryd.ntmps56
  go_wp2
  go_ret
  exact ⟨ret_bool (by simp [hk]), rfl⟩
theorem known_no (k : Int) (hk : ¬ (1 ≤ k ∧ k ≤ 6)) (w : World) : Calls Tryd.prog 56 #[.int .i64 k] w fun e w' => e = .returned (.bool false) ∧ w = w' := by
  go_enter Tryd.func56, Tryd.ntmps56
  go_wp2
  all_goals go_ret
  all_goals exact ⟨ret_bool (by simp <;> omega), rfl⟩

@[reducible] def vF (k p0 p1 p2 p3 p4 p5 ch ms vl : Int) (hd : Bool) : Value := .agg #[.int .i64 k, .int .i64 p0, .int .i64 p1, .int .i64 p2, .int .i64 p3, .int .i64 p4, .int .i64 p5, .int .i64 ch, .int .u8 ms, .int .u8 vl, .bool hd]

theorem covers_no (k p0 p1 p2 p3 p4 p5 ch ms vl q0 q1 q2 q3 q4 q5 : Int) (hd : Bool) (hk : ¬ (1 ≤ k ∧ k ≤ 6)) (w : World) :
    Calls Tryd.prog 22 #[vF k p0 p1 p2 p3 p4 p5 ch ms vl hd, v6 q0 q1 q2 q3 q4 q5] w (Gives (.bool false) w) := by
  go_enter Tryd.func22, Tryd.ntmps22
  go_wp2_with (go_at_call 56; refine (known_no _ hk _).mono ?_; rintro _ w1 ⟨rfl, rfl⟩)
  go_ret
  refine ⟨rfl, ?_⟩
  go_grown

set_option maxHeartbeats 8000000 in
theorem covers_yes (k p0 p1 p2 p3 p4 p5 ch ms vl q0 q1 q2 q3 q4 q5 : Int) (hd : Bool) (hk : 1 ≤ k ∧ k ≤ 6) (w : World) (hN : Nm w) :
    Calls Tryd.prog 22 #[vF k p0 p1 p2 p3 p4 p5 ch ms vl hd, v6 q0 q1 q2 q3 q4 q5] w (Gives (.bool (decide (CV k p0 p1 p2 p3 p4 p5 q0 q1 q2 q3 q4 q5))) w) := by
  go_enter Tryd.func22, Tryd.ntmps22
  go_wp2_with (go_at_call 56; refine (known_yes _ hk _).mono ?_; rintro _ w1 ⟨rfl, rfl⟩)
  generalize hW : (w.alloc _).alloc _ = W
  have hb : Below w.heap.size w W := by rw [← hW]; go_grown
  have B1 : Blk W w.heap.size #[.int .i64 k, .int .i64 p0, .int .i64 p1, .int .i64 p2, .int .i64 p3, .int .i64 p4, .int .i64 p5, .int .i64 ch, .int .u8 ms, .int .u8 vl, .bool hd] 38 := by rw [← hW]; exact (Blk.new w _ _).alloc _
  have B2 : Blk W (w.heap.size + 1) #[.int .i64 q0, .int .i64 q1, .int .i64 q2, .int .i64 q3, .int .i64 q4, .int .i64 q5] 36 := by rw [← hW]; simpa using Blk.new (w.alloc _) #[.int .i64 q0, .int .i64 q1, .int .i64 q2, .int .i64 q3, .int .i64 q4, .int .i64 q5] 36
  clear hW
  have hz := B2.lt
  have hN1 := hN.lt
  refine wp_region_f (by kernel_rfl) [0, 1, 2, 3, 4, 5, 6, 7, 8] (by kernel_rfl) (by kernel_rfl) (by kernel_rfl) (fun k => k < W.heap.size) (fun w' => Below w.heap.size w w') (fun _ h => h) (lasting_below hb.size) hb.drew ?_
  intro w0 hw0
  replace B1 := B1.drew
  replace B2 := B2.drew
  rw [← hw0] at B1 B2
  have hz0 : W.heap.size = w0.heap.size := by rw [hw0]; rfl
  rw [hz0]
  rw [hz0] at hz
  clear hw0 hz0
  have c1 := B1.cell
  have c2 := B2.cell
  simp only [List.filterMap_cons, List.filterMap_nil, List.getElem?_toArray, List.getElem?_cons_zero, List.getElem?_cons_succ]
  refine wpF_free rfl rfl rfl (fun _ _ => ?_)
  go_step
  go_step
  refine wpF_load rfl rfl rfl (by show w.heap.size < w0.heap.size; omega) (by simp [*]) (fun _ _ => ?_)
  go_step
  go_step
  refine wpF_call rfl rfl (fun w1 hc1 _ _ => ?_)
  go_step
  refine (numbers_any _ _ _ _ _ _ _).mono ?_
  rintro _ w2 ⟨rfl, hb2⟩
  dsimp only
  go_step
  refine ⟨hc1.below (fun _ h => h) hb2 (hc1.inv.trans (hb2.mono (by have := hc1.size; omega))), fun k _ hk => hb2.block k hk, ?_⟩
  refine wpF_load rfl rfl rfl (by show w.heap.size + 1 < w0.heap.size; omega) (by simp [*]) (fun _ _ => ?_)
  go_step
  go_step
  refine wpF_call rfl rfl (fun w1 hc1 _ _ => ?_)
  go_step
  refine (numbers_any _ _ _ _ _ _ _).mono ?_
  rintro _ w2 ⟨rfl, hb2⟩
  dsimp only
  go_step
  refine ⟨hc1.below (fun _ h => h) hb2 (hc1.inv.trans (hb2.mono (by have := hc1.size; omega))), fun k _ hk => hb2.block k hk, ?_⟩
  refine wpF_float rfl rfl #[.int .i64 0, .int .i64 0, .int .i64 0, .int .i64 0, .int .i64 0, .int .i64 0] 79 (fun w => by kernel_rfl) (fun b5 hb5 hn5 _ _ => ?_)
  go_simp
  go_step
  refine wpF_float rfl rfl #[.int .i64 0, .int .i64 0, .int .i64 0, .int .i64 0, .int .i64 0, .int .i64 0] 79 (fun w => by kernel_rfl) (fun b6 hb6 hn6 _ _ => ?_)
  go_simp
  go_step
  have hne : b6 ≠ b5 := fun e => by rw [e] at hn6; simp [Fl.put] at hn6
  refine wpF_store (cs := #[.int .i64 p0, .int .i64 p1, .int .i64 p2, .int .i64 p3, .int .i64 p4, .int .i64 p5]) rfl rfl rfl rfl ((Fl.ne _ (Ne.symm hne) _).trans (Fl.at _ _ _)) rfl (by kernel_rfl) rfl rfl (fun _ _ => ?_)
  go_simp
  go_step
  refine wpF_store (cs := #[.int .i64 q0, .int .i64 q1, .int .i64 q2, .int .i64 q3, .int .i64 q4, .int .i64 q5]) rfl rfl rfl rfl ((Fl.ne _ hne _).trans (Fl.at _ _ _)) rfl (by kernel_rfl) rfl rfl (fun _ _ => ?_)
  go_simp
  go_step
  refine wpF_nil ?_
  intro w3 hC
  have D5 : Blk w3 b5 _ _ := (hC.laid b5 _ ((Fl.ne _ (Ne.symm hne) _).trans (Fl.at _ _ _))).2
  have D6 : Blk w3 b6 _ _ := (hC.laid b6 _ (Fl.at _ _ _)).2
  have hb3 := hC.inv
  have E1 := (hC.same _ (show w.heap.size < w0.heap.size by omega))
  clear hC c1 c2 B2
  replace B1 : Blk w3 _ _ _ := E1.trans B1
  clear E1
  go_step
  go_step
  have c5 := D5.cell
  have c6 := D6.cell
  have c1 := B1.cell
  have hN3 := hN.below hb3
  have hkk : k = 1 ∨ k = 2 ∨ k = 3 ∨ k = 4 ∨ k = 5 ∨ k = 6 := by omega
  clear D5 D6 B1 hb hc1 hb2 hn5 hn6 hb5 hb6 hz hN hN1
  rcases hkk with rfl | rfl | rfl | rfl | rfl | rfl
  · have t0 : w3.cell? ⟨0, 6, none⟩ = some (.bool true) := hN3 1 (by decide) (by decide) 0 (by decide)
    have t1 : w3.cell? ⟨0, 7, none⟩ = some (.bool true) := hN3 1 (by decide) (by decide) 1 (by decide)
    have t2 : w3.cell? ⟨0, 8, none⟩ = some (.bool true) := hN3 1 (by decide) (by decide) 2 (by decide)
    have t3 : w3.cell? ⟨0, 9, none⟩ = some (.bool true) := hN3 1 (by decide) (by decide) 3 (by decide)
    have t4 : w3.cell? ⟨0, 10, none⟩ = some (.bool true) := hN3 1 (by decide) (by decide) 4 (by decide)
    have t5 : w3.cell? ⟨0, 11, none⟩ = some (.bool true) := hN3 1 (by decide) (by decide) 5 (by decide)
    have HN := Lib.hid hN3
    clear hN3
    go_wp2_with fail
    refine wp_loop_rounds 7 ?_
    rw [rounds_succ]
    go_wp2_with fail
    go_quiet (fail)
    go_wp2_with fail
    · go_ret
      refine ⟨ret_bool (decide_eq_false fun h => ne_of_bne ‹(p0 != q0) = true› (h.h0)).symm, ?_⟩
      repeat refine below_drewN ?_ _
      exact hb3
    rw [rounds_succ]
    go_wp2_with fail
    go_quiet (fail)
    go_wp2_with fail
    · go_ret
      refine ⟨ret_bool (decide_eq_false fun h => ne_of_bne ‹(p1 != q1) = true› (h.h1)).symm, ?_⟩
      repeat refine below_drewN ?_ _
      exact hb3
    rw [rounds_succ]
    go_wp2_with fail
    go_quiet (fail)
    go_wp2_with fail
    · go_ret
      refine ⟨ret_bool (decide_eq_false fun h => ne_of_bne ‹(p2 != q2) = true› (h.h2 (by omega))).symm, ?_⟩
      repeat refine below_drewN ?_ _
      exact hb3
    rw [rounds_succ]
    go_wp2_with fail
    go_quiet (fail)
    go_wp2_with fail
    · go_ret
      refine ⟨ret_bool (decide_eq_false fun h => ne_of_bne ‹(p3 != q3) = true› (h.h3 (by omega))).symm, ?_⟩
      repeat refine below_drewN ?_ _
      exact hb3
    rw [rounds_succ]
    go_wp2_with fail
    go_quiet (fail)
    go_wp2_with fail
    · go_ret
      refine ⟨ret_bool (decide_eq_false fun h => ne_of_bne ‹(p4 != q4) = true› (h.h4 (by omega))).symm, ?_⟩
      repeat refine below_drewN ?_ _
      exact hb3
    rw [rounds_succ]
    go_wp2_with fail
    go_quiet (fail)
    go_wp2_with fail
    · go_ret
      refine ⟨ret_bool (decide_eq_false fun h => ne_of_bne ‹(p5 != q5) = true› (h.h5 (by omega))).symm, ?_⟩
      repeat refine below_drewN ?_ _
      exact hb3
    rw [rounds_succ]
    go_wp2_with fail
    go_ret
    refine ⟨ret_bool (decide_eq_true ⟨eq_of_bne ‹(p0 != q0) = false›, eq_of_bne ‹(p1 != q1) = false›, fun _ => eq_of_bne ‹(p2 != q2) = false›, fun _ => eq_of_bne ‹(p3 != q3) = false›, fun _ => eq_of_bne ‹(p4 != q4) = false›, fun _ => eq_of_bne ‹(p5 != q5) = false›⟩).symm, ?_⟩
    repeat refine below_drewN ?_ _
    exact hb3
  · have t0 : w3.cell? ⟨0, 12, none⟩ = some (.bool true) := hN3 2 (by decide) (by decide) 0 (by decide)
    have t1 : w3.cell? ⟨0, 13, none⟩ = some (.bool true) := hN3 2 (by decide) (by decide) 1 (by decide)
    have t2 : w3.cell? ⟨0, 14, none⟩ = some (.bool true) := hN3 2 (by decide) (by decide) 2 (by decide)
    have t3 : w3.cell? ⟨0, 15, none⟩ = some (.bool true) := hN3 2 (by decide) (by decide) 3 (by decide)
    have t4 : w3.cell? ⟨0, 16, none⟩ = some (.bool true) := hN3 2 (by decide) (by decide) 4 (by decide)
    have t5 : w3.cell? ⟨0, 17, none⟩ = some (.bool false) := hN3 2 (by decide) (by decide) 5 (by decide)
    have HN := Lib.hid hN3
    clear hN3
    go_wp2_with fail
    refine wp_loop_rounds 7 ?_
    rw [rounds_succ]
    go_wp2_with fail
    go_quiet (fail)
    go_wp2_with fail
    · go_ret
      refine ⟨ret_bool (decide_eq_false fun h => ne_of_bne ‹(p0 != q0) = true› (h.h0)).symm, ?_⟩
      repeat refine below_drewN ?_ _
      exact hb3
    rw [rounds_succ]
    go_wp2_with fail
    go_quiet (fail)
    go_wp2_with fail
    · go_ret
      refine ⟨ret_bool (decide_eq_false fun h => ne_of_bne ‹(p1 != q1) = true› (h.h1)).symm, ?_⟩
      repeat refine below_drewN ?_ _
      exact hb3
    rw [rounds_succ]
    go_wp2_with fail
    go_quiet (fail)
    go_wp2_with fail
    · go_ret
      refine ⟨ret_bool (decide_eq_false fun h => ne_of_bne ‹(p2 != q2) = true› (h.h2 (by omega))).symm, ?_⟩
      repeat refine below_drewN ?_ _
      exact hb3
    rw [rounds_succ]
    go_wp2_with fail
    go_quiet (fail)
    go_wp2_with fail
    · go_ret
      refine ⟨ret_bool (decide_eq_false fun h => ne_of_bne ‹(p3 != q3) = true› (h.h3 (by omega))).symm, ?_⟩
      repeat refine below_drewN ?_ _
      exact hb3
    rw [rounds_succ]
    go_wp2_with fail
    go_quiet (fail)
    go_wp2_with fail
    · go_ret
      refine ⟨ret_bool (decide_eq_false fun h => ne_of_bne ‹(p4 != q4) = true› (h.h4 (by omega))).symm, ?_⟩
      repeat refine below_drewN ?_ _
      exact hb3
    rw [rounds_succ]
    go_wp2_with fail
    go_quiet (fail)
    go_wp2_with fail
    rw [rounds_succ]
    go_wp2_with fail
    go_ret
    refine ⟨ret_bool (decide_eq_true ⟨eq_of_bne ‹(p0 != q0) = false›, eq_of_bne ‹(p1 != q1) = false›, fun _ => eq_of_bne ‹(p2 != q2) = false›, fun _ => eq_of_bne ‹(p3 != q3) = false›, fun _ => eq_of_bne ‹(p4 != q4) = false›, fun h => absurd h (by omega)⟩).symm, ?_⟩
    repeat refine below_drewN ?_ _
    exact hb3
  · have t0 : w3.cell? ⟨0, 18, none⟩ = some (.bool true) := hN3 3 (by decide) (by decide) 0 (by decide)
    have t1 : w3.cell? ⟨0, 19, none⟩ = some (.bool true) := hN3 3 (by decide) (by decide) 1 (by decide)
    have t2 : w3.cell? ⟨0, 20, none⟩ = some (.bool true) := hN3 3 (by decide) (by decide) 2 (by decide)
    have t3 : w3.cell? ⟨0, 21, none⟩ = some (.bool true) := hN3 3 (by decide) (by decide) 3 (by decide)
    have t4 : w3.cell? ⟨0, 22, none⟩ = some (.bool false) := hN3 3 (by decide) (by decide) 4 (by decide)
    have t5 : w3.cell? ⟨0, 23, none⟩ = some (.bool true) := hN3 3 (by decide) (by decide) 5 (by decide)
    have HN := Lib.hid hN3
    clear hN3
    go_wp2_with fail
    refine wp_loop_rounds 7 ?_
    rw [rounds_succ]
    go_wp2_with fail
    go_quiet (fail)
    go_wp2_with fail
    · go_ret
      refine ⟨ret_bool (decide_eq_false fun h => ne_of_bne ‹(p0 != q0) = true› (h.h0)).symm, ?_⟩
      repeat refine below_drewN ?_ _
      exact hb3
    rw [rounds_succ]
    go_wp2_with fail
    go_quiet (fail)
    go_wp2_with fail
    · go_ret
      refine ⟨ret_bool (decide_eq_false fun h => ne_of_bne ‹(p1 != q1) = true› (h.h1)).symm, ?_⟩
      repeat refine below_drewN ?_ _
      exact hb3
    rw [rounds_succ]
    go_wp2_with fail
    go_quiet (fail)
    go_wp2_with fail
    · go_ret
      refine ⟨ret_bool (decide_eq_false fun h => ne_of_bne ‹(p2 != q2) = true› (h.h2 (by omega))).symm, ?_⟩
      repeat refine below_drewN ?_ _
      exact hb3
    rw [rounds_succ]
    go_wp2_with fail
    go_quiet (fail)
    go_wp2_with fail
    · go_ret
      refine ⟨ret_bool (decide_eq_false fun h => ne_of_bne ‹(p3 != q3) = true› (h.h3 (by omega))).symm, ?_⟩
      repeat refine below_drewN ?_ _
      exact hb3
    rw [rounds_succ]
    go_wp2_with fail
    go_quiet (fail)
    go_wp2_with fail
    rw [rounds_succ]
    go_wp2_with fail
    go_quiet (fail)
    go_wp2_with fail
    · go_ret
      refine ⟨ret_bool (decide_eq_false fun h => ne_of_bne ‹(p5 != q5) = true› (h.h5 (by omega))).symm, ?_⟩
      repeat refine below_drewN ?_ _
      exact hb3
    rw [rounds_succ]
    go_wp2_with fail
    go_ret
    refine ⟨ret_bool (decide_eq_true ⟨eq_of_bne ‹(p0 != q0) = false›, eq_of_bne ‹(p1 != q1) = false›, fun _ => eq_of_bne ‹(p2 != q2) = false›, fun _ => eq_of_bne ‹(p3 != q3) = false›, fun h => absurd h (by omega), fun _ => eq_of_bne ‹(p5 != q5) = false›⟩).symm, ?_⟩
    repeat refine below_drewN ?_ _
    exact hb3
  · have t0 : w3.cell? ⟨0, 24, none⟩ = some (.bool true) := hN3 4 (by decide) (by decide) 0 (by decide)
    have t1 : w3.cell? ⟨0, 25, none⟩ = some (.bool true) := hN3 4 (by decide) (by decide) 1 (by decide)
    have t2 : w3.cell? ⟨0, 26, none⟩ = some (.bool true) := hN3 4 (by decide) (by decide) 2 (by decide)
    have t3 : w3.cell? ⟨0, 27, none⟩ = some (.bool true) := hN3 4 (by decide) (by decide) 3 (by decide)
    have t4 : w3.cell? ⟨0, 28, none⟩ = some (.bool false) := hN3 4 (by decide) (by decide) 4 (by decide)
    have t5 : w3.cell? ⟨0, 29, none⟩ = some (.bool false) := hN3 4 (by decide) (by decide) 5 (by decide)
    have HN := Lib.hid hN3
    clear hN3
    go_wp2_with fail
    refine wp_loop_rounds 7 ?_
    rw [rounds_succ]
    go_wp2_with fail
    go_quiet (fail)
    go_wp2_with fail
    · go_ret
      refine ⟨ret_bool (decide_eq_false fun h => ne_of_bne ‹(p0 != q0) = true› (h.h0)).symm, ?_⟩
      repeat refine below_drewN ?_ _
      exact hb3
    rw [rounds_succ]
    go_wp2_with fail
    go_quiet (fail)
    go_wp2_with fail
    · go_ret
      refine ⟨ret_bool (decide_eq_false fun h => ne_of_bne ‹(p1 != q1) = true› (h.h1)).symm, ?_⟩
      repeat refine below_drewN ?_ _
      exact hb3
    rw [rounds_succ]
    go_wp2_with fail
    go_quiet (fail)
    go_wp2_with fail
    · go_ret
      refine ⟨ret_bool (decide_eq_false fun h => ne_of_bne ‹(p2 != q2) = true› (h.h2 (by omega))).symm, ?_⟩
      repeat refine below_drewN ?_ _
      exact hb3
    rw [rounds_succ]
    go_wp2_with fail
    go_quiet (fail)
    go_wp2_with fail
    · go_ret
      refine ⟨ret_bool (decide_eq_false fun h => ne_of_bne ‹(p3 != q3) = true› (h.h3 (by omega))).symm, ?_⟩
      repeat refine below_drewN ?_ _
      exact hb3
    rw [rounds_succ]
    go_wp2_with fail
    go_quiet (fail)
    go_wp2_with fail
    rw [rounds_succ]
    go_wp2_with fail
    go_quiet (fail)
    go_wp2_with fail
    rw [rounds_succ]
    go_wp2_with fail
    go_ret
    refine ⟨ret_bool (decide_eq_true ⟨eq_of_bne ‹(p0 != q0) = false›, eq_of_bne ‹(p1 != q1) = false›, fun _ => eq_of_bne ‹(p2 != q2) = false›, fun _ => eq_of_bne ‹(p3 != q3) = false›, fun h => absurd h (by omega), fun h => absurd h (by omega)⟩).symm, ?_⟩
    repeat refine below_drewN ?_ _
    exact hb3
  · have t0 : w3.cell? ⟨0, 30, none⟩ = some (.bool true) := hN3 5 (by decide) (by decide) 0 (by decide)
    have t1 : w3.cell? ⟨0, 31, none⟩ = some (.bool true) := hN3 5 (by decide) (by decide) 1 (by decide)
    have t2 : w3.cell? ⟨0, 32, none⟩ = some (.bool true) := hN3 5 (by decide) (by decide) 2 (by decide)
    have t3 : w3.cell? ⟨0, 33, none⟩ = some (.bool false) := hN3 5 (by decide) (by decide) 3 (by decide)
    have t4 : w3.cell? ⟨0, 34, none⟩ = some (.bool false) := hN3 5 (by decide) (by decide) 4 (by decide)
    have t5 : w3.cell? ⟨0, 35, none⟩ = some (.bool false) := hN3 5 (by decide) (by decide) 5 (by decide)
    have HN := Lib.hid hN3
    clear hN3
    go_wp2_with fail
    refine wp_loop_rounds 7 ?_
    rw [rounds_succ]
    go_wp2_with fail
    go_quiet (fail)
    go_wp2_with fail
    · go_ret
      refine ⟨ret_bool (decide_eq_false fun h => ne_of_bne ‹(p0 != q0) = true› (h.h0)).symm, ?_⟩
      repeat refine below_drewN ?_ _
      exact hb3
    rw [rounds_succ]
    go_wp2_with fail
    go_quiet (fail)
    go_wp2_with fail
    · go_ret
      refine ⟨ret_bool (decide_eq_false fun h => ne_of_bne ‹(p1 != q1) = true› (h.h1)).symm, ?_⟩
      repeat refine below_drewN ?_ _
      exact hb3
    rw [rounds_succ]
    go_wp2_with fail
    go_quiet (fail)
    go_wp2_with fail
    · go_ret
      refine ⟨ret_bool (decide_eq_false fun h => ne_of_bne ‹(p2 != q2) = true› (h.h2 (by omega))).symm, ?_⟩
      repeat refine below_drewN ?_ _
      exact hb3
    rw [rounds_succ]
    go_wp2_with fail
    go_quiet (fail)
    go_wp2_with fail
    rw [rounds_succ]
    go_wp2_with fail
    go_quiet (fail)
    go_wp2_with fail
    rw [rounds_succ]
    go_wp2_with fail
    go_quiet (fail)
    go_wp2_with fail
    rw [rounds_succ]
    go_wp2_with fail
    go_ret
    refine ⟨ret_bool (decide_eq_true ⟨eq_of_bne ‹(p0 != q0) = false›, eq_of_bne ‹(p1 != q1) = false›, fun _ => eq_of_bne ‹(p2 != q2) = false›, fun h => absurd h (by omega), fun h => absurd h (by omega), fun h => absurd h (by omega)⟩).symm, ?_⟩
    repeat refine below_drewN ?_ _
    exact hb3
  · have t0 : w3.cell? ⟨0, 36, none⟩ = some (.bool true) := hN3 6 (by decide) (by decide) 0 (by decide)
    have t1 : w3.cell? ⟨0, 37, none⟩ = some (.bool true) := hN3 6 (by decide) (by decide) 1 (by decide)
    have t2 : w3.cell? ⟨0, 38, none⟩ = some (.bool false) := hN3 6 (by decide) (by decide) 2 (by decide)
    have t3 : w3.cell? ⟨0, 39, none⟩ = some (.bool false) := hN3 6 (by decide) (by decide) 3 (by decide)
    have t4 : w3.cell? ⟨0, 40, none⟩ = some (.bool false) := hN3 6 (by decide) (by decide) 4 (by decide)
    have t5 : w3.cell? ⟨0, 41, none⟩ = some (.bool false) := hN3 6 (by decide) (by decide) 5 (by decide)
    have HN := Lib.hid hN3
    clear hN3
    go_wp2_with fail
    refine wp_loop_rounds 7 ?_
    rw [rounds_succ]
    go_wp2_with fail
    go_quiet (fail)
    go_wp2_with fail
    · go_ret
      refine ⟨ret_bool (decide_eq_false fun h => ne_of_bne ‹(p0 != q0) = true› (h.h0)).symm, ?_⟩
      repeat refine below_drewN ?_ _
      exact hb3
    rw [rounds_succ]
    go_wp2_with fail
    go_quiet (fail)
    go_wp2_with fail
    · go_ret
      refine ⟨ret_bool (decide_eq_false fun h => ne_of_bne ‹(p1 != q1) = true› (h.h1)).symm, ?_⟩
      repeat refine below_drewN ?_ _
      exact hb3
    rw [rounds_succ]
    go_wp2_with fail
    go_quiet (fail)
    go_wp2_with fail
    rw [rounds_succ]
    go_wp2_with fail
    go_quiet (fail)
    go_wp2_with fail
    rw [rounds_succ]
    go_wp2_with fail
    go_quiet (fail)
    go_wp2_with fail
    rw [rounds_succ]
    go_wp2_with fail
    go_quiet (fail)
    go_wp2_with fail
    rw [rounds_succ]
    go_wp2_with fail
    go_ret
    refine ⟨ret_bool (decide_eq_true ⟨eq_of_bne ‹(p0 != q0) = false›, eq_of_bne ‹(p1 != q1) = false›, fun h => absurd h (by omega), fun h => absurd h (by omega), fun h => absurd h (by omega), fun h => absurd h (by omega)⟩).symm, ?_⟩
    repeat refine below_drewN ?_ _
    exact hb3
end Go.Proofs.YtplflpmkomeadaaDoor
