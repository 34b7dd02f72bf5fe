/- Package ranks: what its functions return for a valid sparing in use. -/
import Derived.Test.YtaeockopliplfaaOwn
import Derived.Test.YtaeockopliplfaaPart3
import Derived.Test.YtaeockopliplfaaRankMath
namespace Go.Proofs.Ytaeockopliplfaa
set_option linter.unusedSimpArgs false
set_option linter.unusedVariables false
open Go.RowKit
set_option maxRecDepth 100000
attribute [local go_sem] lt_more ne_more ne_more'
attribute [local irreducible] wpX wpF

/-- A sparing. -/
@[reducible] def vS (a0 a1 a2 a3 a4 a5 so cn bd sp dn : Int) (ac : Bool) : Value := .agg #[.int .i64 a0, .int .i64 a1, .int .i64 a2, .int .i64 a3, .int .i64 a4, .int .i64 a5, .int .i64 so, .int .i64 cn, .int .i64 bd, .int .i64 sp, .int .i64 dn, .bool ac]
/-- A sparing's numbers are valid. -/
structure RS (a0 a1 a2 a3 a4 a5 so cn bd sp : Int) : Prop where
  sv : SV a0 a1 a2 a3 a4 a5
  pb : PV a0 a1 a2 a3 a4 a5 so cn bd 0 0 0
  ps : PV a0 a1 a2 a3 a4 a5 so cn sp 0 0 0
  ne : bd ≠ sp

theorem gives_of {P : Program} {f : FuncId} {args : Array Value} {w : World} {v : Value} (h : Calls P f args w fun e w' => e = .returned v ∧ w = w') : Calls P f args w (Gives v w) :=
  h.mono fun _ _ ⟨he, hw⟩ => ⟨he, hw ▸ Below.refl _ _⟩
@[reducible] def v6P (p : P6) : Value := v6 p.a p.b p.c p.d p.e p.f
theorem at_is {a0 a1 a2 a3 a4 a5 i : Int} (h : SV a0 a1 a2 a3 a4 a5) (hi0 : 0 ≤ i) (hi1 : i < 2 ^ (a0 + a1 + a2 + a3 + a4 + a5).toNat) (w : World) :
    Calls Try.prog 26 #[v6 a0 a1 a2 a3 a4 a5, .int .i64 i] w (Gives (.tuple #[v6P (atF a0 a1 a2 a3 a4 a5 i), .int .i64 0]) w) := by
  obtain ⟨x1, x2, x3, x4, x5, x6, h5, h4, h3, h2, h1, h0, hall⟩ := atF_steps h hi0 hi1
  exact at_yes h hi0 hi1 h5 h4 h3 h2 h1 h0 w
theorem rsize_of {a0 a1 a2 a3 a4 a5 : Int} (h : SV a0 a1 a2 a3 a4 a5) (w : World) : Calls Try.prog 23 #[v6 a0 a1 a2 a3 a4 a5] w (Gives (.int .i64 (rsz a3 a4 a5)) w) := by
  have h3 := low3 h
  obtain ⟨h0, h1, h2, hb, hr, hc, hs⟩ := h
  have e : wrap64 (2 ^ (a3 + a4 + a5).toNat) = rsz a3 a4 a5 := wrap_pw h3.2
  go_enter Try.func23, Try.ntmps23
  have H := HS.start NoD w
  go_wp2_with fail
  go_ret
  refine ⟨ret_int ?_, by (first | exact H.done | exact H.skipAlloc.done | exact H.skipAlloc.skipAlloc.done | exact H.skipAlloc.skipAlloc.skipAlloc.done)⟩
  exact e
theorem in_yes {a0 a1 a2 a3 a4 a5 so cn r : Int} (h : SV a0 a1 a2 a3 a4 a5) (hp : PV a0 a1 a2 a3 a4 a5 so cn r 0 0 0) (w : World) : Calls Try.prog 20 #[v6 a0 a1 a2 a3 a4 a5, .int .i64 so, .int .i64 cn, .int .i64 r] w (Gives (.bool true) w) := by
  have HV := Lib.hid (fun w => validPlace_yes h hp w)
  go_enter Try.func20, Try.ntmps20
  have H := HS.start NoD w
  go_wp2_with fail
  refine (HV.out _).mono ?_
  rintro _ w1 ⟨rfl, hb⟩
  replace H := H.alloc.below hb
  clear hb
  try clear C
  try simp only [World.size_alloc, List.nil_append, List.cons_append, List.append_assoc] at H
  generalize w.heap.size = bS at H ⊢
  have C := H.cells
  try simp only [cellsOf, apartOf, and_true] at C
  dsimp only
  go_wp2_with fail
  go_ret
  exact ⟨rfl, H.done⟩
/-- The number of a rank's first word. -/
def fst (a0 a1 a2 a3 a4 a5 so cn r : Int) : Int := idx a1 a2 a3 a4 a5 so cn r 0 0 0
theorem first_of {a0 a1 a2 a3 a4 a5 so cn r : Int} (h : SV a0 a1 a2 a3 a4 a5) (hp : PV a0 a1 a2 a3 a4 a5 so cn r 0 0 0) (bd sp dn : Int) (ac : Bool) (w : World) : Calls Try.prog 24 #[vS a0 a1 a2 a3 a4 a5 so cn bd sp dn ac, .int .i64 r] w (Gives (.int .i64 (fst a0 a1 a2 a3 a4 a5 so cn r)) w) := by
  have HV := Lib.hid (fun w => index_yes h hp w)
  go_enter Try.func24, Try.ntmps24
  have H := HS.start NoD w
  go_wp2_with fail
  refine (HV.out _).mono ?_
  rintro _ w1 ⟨rfl, hb⟩
  replace H := H.alloc.below hb
  clear hb
  try clear C
  try simp only [World.size_alloc, List.nil_append, List.cons_append, List.append_assoc] at H
  generalize w.heap.size = bX at H ⊢
  have C := H.cells
  try simp only [cellsOf, apartOf, and_true] at C
  dsimp only
  go_wp2_with fail
  go_ret
  exact ⟨rfl, H.done⟩
theorem start_of {a0 a1 a2 a3 a4 a5 so cn bd sp : Int} (h : RS a0 a1 a2 a3 a4 a5 so cn bd sp) (w : World) : Calls Try.prog 11 #[v6 a0 a1 a2 a3 a4 a5, .int .i64 so, .int .i64 cn, .int .i64 bd, .int .i64 sp] w (Gives (.tuple #[vS a0 a1 a2 a3 a4 a5 so cn bd sp 0 true, .int .i64 0]) w) := by
  have HV := Lib.hid (fun w => valid_yes h.sv w)
  have HB := Lib.hid (fun w => in_yes h.sv h.pb w)
  have HP := Lib.hid (fun w => in_yes h.sv h.ps w)
  have hne : (bd == sp) = false := by simpa using h.ne
  go_enter Try.func11, Try.ntmps11
  have H := HS.start NoD w
  go_wp2_with fail
  refine (HV.out _).mono ?_
  rintro _ w1 ⟨rfl, hb⟩
  replace H := H.alloc.alloc.below hb
  clear hb
  try clear C
  try simp only [World.size_alloc, List.nil_append, List.cons_append, List.append_assoc] at H
  generalize w.heap.size + 1 = bR at H ⊢
  generalize w.heap.size = bS at H ⊢
  have C := H.cells
  try simp only [cellsOf, apartOf, and_true] at C
  dsimp only
  go_wp2_with fail
  refine (HB.out _).mono ?_
  rintro _ w2 ⟨rfl, hb⟩
  replace H := H.below hb
  clear hb
  try clear C
  try simp only [World.size_alloc, List.nil_append, List.cons_append, List.append_assoc] at H
  try clear w1
  have C := H.cells
  try simp only [cellsOf, apartOf, and_true] at C
  dsimp only
  go_wp2_with fail
  refine (HP.out _).mono ?_
  rintro _ w3 ⟨rfl, hb⟩
  replace H := H.below hb
  clear hb
  try clear C
  try simp only [World.size_alloc, List.nil_append, List.cons_append, List.append_assoc] at H
  try clear w2
  have C := H.cells
  try simp only [cellsOf, apartOf, and_true] at C
  dsimp only
  go_wp2_with fail
  have zR := H.mine 1 rfl
  refine bodyPost_ret (v := .tuple #[vS a0 a1 a2 a3 a4 a5 so cn bd sp 0 true, .int .i64 0]) (by simp [results, Try.results11, go_sem, *]) rfl ⟨rfl, ?_⟩
  repeat refine Below.setCell ?_ zR _
  exact H.done

theorem rvalid_of {a0 a1 a2 a3 a4 a5 so cn bd sp dn : Int} (h : RS a0 a1 a2 a3 a4 a5 so cn bd sp) (hd : 0 ≤ dn ∧ dn ≤ rsz a3 a4 a5) (w : World) : Calls Try.prog 18 #[vS a0 a1 a2 a3 a4 a5 so cn bd sp dn true] w (Gives (.bool true) w) := by
  have HB := Lib.hid (fun w => start_of h w)
  have HP := Lib.hid (fun w => rsize_of h.sv w)
  have g1 : decide (0 ≤ dn) = true := decide_eq_true hd.1
  have g2 : decide (dn ≤ rsz a3 a4 a5) = true := decide_eq_true hd.2
  clear hd
  go_enter Try.func18, Try.ntmps18
  have H := HS.start NoD w
  go_wp2_with fail
  refine (HB.out _).mono ?_
  rintro _ w1 ⟨rfl, hb⟩
  replace H := H.alloc.below hb
  clear hb
  try clear C
  try simp only [World.size_alloc, List.nil_append, List.cons_append, List.append_assoc] at H
  generalize w.heap.size = bX at H ⊢
  have C := H.cells
  try simp only [cellsOf, apartOf, and_true] at C
  dsimp only
  go_wp2_with fail
  refine wp_region_xH (by kernel_rfl) (by kernel_rfl) (by kernel_rfl) (by kernel_rfl) (fun _ => False) (H.alloc) ?_
  clear H; intro w2 H hz0 hs0
  try clear C
  try simp only [World.size_alloc, List.nil_append, List.cons_append, List.append_assoc] at H hz0
  generalize w1.heap.size = bY at H hz0 ⊢
  clear hz0
  try clear w1
  have C := H.cells
  try simp only [cellsOf, apartOf, and_true] at C
  have Z := H.zs
  try simp only [ltsOf, and_true] at Z
  have hz0 := Nat.le_refl w2.heap.size
  repeat (first | (refine wpX_skip rfl ?_; go_simp) | (refine wpX_free rfl rfl rfl (fun K hK => ?_); go_step; refine hK _ _ ?_; clear hK K) | (refine wpX_load rfl rfl rfl (by simp [Stay, OneD, NoD, *]) hs0 (by simp [*]) (fun K hK => ?_); go_step; refine hK _ _ ?_; clear hK K))
  refine wpX_eff rfl rfl (fun _ _ => ?_)
  go_step
  refine (HP.out _).mono ?_
  rintro _ w3 ⟨rfl, hb⟩
  replace hs0 := hs0.belowS hz0 hb
  replace hz0 := Nat.le_trans hz0 hb.size
  replace H := H.below hb
  clear hb
  try clear C
  have C := H.cells
  try simp only [cellsOf, apartOf, and_true] at C
  try clear w2
  dsimp only
  go_step
  refine ⟨hs0, ?_⟩
  repeat (first | (refine wpX_skip rfl ?_; go_simp) | (refine wpX_free rfl rfl rfl (fun K hK => ?_); go_step; refine hK _ _ ?_; clear hK K) | (refine wpX_load rfl rfl rfl (by simp [Stay, OneD, NoD, *]) hs0 (by simp [*]) (fun K hK => ?_); go_step; refine hK _ _ ?_; clear hK K))
  (refine wpX_nil ?_; go_step)
  go_wp2_with fail
  go_ret
  exact ⟨rfl, H.done⟩
theorem words_of {a0 a1 a2 a3 a4 a5 so cn bd sp dn : Int} (h : RS a0 a1 a2 a3 a4 a5 so cn bd sp) (hd : 0 ≤ dn ∧ dn ≤ rsz a3 a4 a5) (w : World) : Calls Try.prog 13 #[vS a0 a1 a2 a3 a4 a5 so cn bd sp dn true] w (Gives (.int .i64 (rsz a3 a4 a5)) w) := by
  have HB := Lib.hid (fun w => rvalid_of h hd w)
  have HP := Lib.hid (fun w => rsize_of h.sv w)
  clear hd
  go_enter Try.func13, Try.ntmps13
  have H := HS.start NoD w
  go_wp2_with fail
  refine (HB.out _).mono ?_
  rintro _ w1 ⟨rfl, hb⟩
  replace H := H.alloc.below hb
  clear hb
  try clear C
  try simp only [World.size_alloc, List.nil_append, List.cons_append, List.append_assoc] at H
  generalize w.heap.size = bX at H ⊢
  have C := H.cells
  try simp only [cellsOf, apartOf, and_true] at C
  dsimp only
  go_wp2_with fail
  refine (HP.out _).mono ?_
  rintro _ w2 ⟨rfl, hb⟩
  replace H := H.below hb
  clear hb
  try clear C
  try simp only [World.size_alloc, List.nil_append, List.cons_append, List.append_assoc] at H
  try clear w1
  have C := H.cells
  try simp only [cellsOf, apartOf, and_true] at C
  dsimp only
  go_wp2_with fail
  go_ret
  exact ⟨rfl, H.done⟩
theorem fst_in {a0 a1 a2 a3 a4 a5 so cn r : Int} (h : SV a0 a1 a2 a3 a4 a5) (hp : PV a0 a1 a2 a3 a4 a5 so cn r 0 0 0) : 0 ≤ fst a0 a1 a2 a3 a4 a5 so cn r ∧ fst a0 a1 a2 a3 a4 a5 so cn r < 4096 := by
  have h1 := idx_in h hp
  have h2 := pw_12 (a := a0 + a1 + a2 + a3 + a4 + a5) h.sum
  unfold fst; omega
theorem next_yes {a0 a1 a2 a3 a4 a5 so cn bd sp dn : Int} (h : RS a0 a1 a2 a3 a4 a5 so cn bd sp) (hd : 0 ≤ dn ∧ dn < rsz a3 a4 a5) (w : World) : Calls Try.prog 14 #[vS a0 a1 a2 a3 a4 a5 so cn bd sp dn true] w (Gives (.tuple #[.int .i64 (fst a0 a1 a2 a3 a4 a5 so cn bd + dn), .int .i64 (fst a0 a1 a2 a3 a4 a5 so cn sp + dn), .bool true]) w) := by
  have HB := Lib.hid (fun w => rvalid_of h ⟨hd.1, Int.le_of_lt hd.2⟩ w)
  have HP := Lib.hid (fun w => words_of h ⟨hd.1, Int.le_of_lt hd.2⟩ w)
  have HF := Lib.hid (fun w => first_of h.sv h.pb bd sp dn true w)
  have HG := Lib.hid (fun w => first_of h.sv h.ps bd sp dn true w)
  have hz := rsz_in h.sv
  have g2 : decide (rsz a3 a4 a5 ≤ dn) = false := decide_eq_false (by omega)
  have i1 := fst_in h.sv h.pb
  have i2 := fst_in h.sv h.ps
  have e1 : wrap64 (fst a0 a1 a2 a3 a4 a5 so cn bd + dn) = fst a0 a1 a2 a3 a4 a5 so cn bd + dn := IntWalk.wrap64_in _ (by omega)
  have e2 : wrap64 (fst a0 a1 a2 a3 a4 a5 so cn sp + dn) = fst a0 a1 a2 a3 a4 a5 so cn sp + dn := IntWalk.wrap64_in _ (by omega)
  clear i1 i2 hz hd
  go_enter Try.func14, Try.ntmps14
  have H := HS.start NoD w
  go_wp2_with fail
  refine wp_region_xH (by kernel_rfl) (by kernel_rfl) (by kernel_rfl) (by kernel_rfl) (fun _ => False) (H.alloc) ?_
  clear H; intro w1 H hz0 hs0
  try clear C
  try simp only [World.size_alloc, List.nil_append, List.cons_append, List.append_assoc] at H hz0
  generalize w.heap.size = bX at H hz0 ⊢
  clear hz0
  have C := H.cells
  try simp only [cellsOf, apartOf, and_true] at C
  have Z := H.zs
  try simp only [ltsOf, and_true] at Z
  have hz0 := Nat.le_refl w1.heap.size
  repeat (first | (refine wpX_skip rfl ?_; go_simp) | (refine wpX_free rfl rfl rfl (fun K hK => ?_); go_step; refine hK _ _ ?_; clear hK K) | (refine wpX_load rfl rfl rfl (by simp [Stay, OneD, NoD, *]) hs0 (by simp [*]) (fun K hK => ?_); go_step; refine hK _ _ ?_; clear hK K))
  refine wpX_eff rfl rfl (fun _ _ => ?_)
  go_step
  refine (HB.out _).mono ?_
  rintro _ w2 ⟨rfl, hb⟩
  replace hs0 := hs0.belowS hz0 hb
  replace hz0 := Nat.le_trans hz0 hb.size
  replace H := H.below hb
  clear hb
  try clear C
  have C := H.cells
  try simp only [cellsOf, apartOf, and_true] at C
  try clear w1
  dsimp only
  go_step
  refine ⟨hs0, ?_⟩
  repeat (first | (refine wpX_skip rfl ?_; go_simp) | (refine wpX_free rfl rfl rfl (fun K hK => ?_); go_step; refine hK _ _ ?_; clear hK K) | (refine wpX_load rfl rfl rfl (by simp [Stay, OneD, NoD, *]) hs0 (by simp [*]) (fun K hK => ?_); go_step; refine hK _ _ ?_; clear hK K))
  refine wpX_eff rfl rfl (fun _ _ => ?_)
  go_step
  refine (HP.out _).mono ?_
  rintro _ w3 ⟨rfl, hb⟩
  replace hs0 := hs0.belowS hz0 hb
  replace hz0 := Nat.le_trans hz0 hb.size
  replace H := H.below hb
  clear hb
  try clear C
  have C := H.cells
  try simp only [cellsOf, apartOf, and_true] at C
  try clear w2
  dsimp only
  go_step
  refine ⟨hs0, ?_⟩
  repeat (first | (refine wpX_skip rfl ?_; go_simp) | (refine wpX_free rfl rfl rfl (fun K hK => ?_); go_step; refine hK _ _ ?_; clear hK K) | (refine wpX_load rfl rfl rfl (by simp [Stay, OneD, NoD, *]) hs0 (by simp [*]) (fun K hK => ?_); go_step; refine hK _ _ ?_; clear hK K))
  (refine wpX_nil ?_; go_step)
  go_wp2_with fail
  clear hs0 hz0 Z
  refine wp_region_xH (by kernel_rfl) (by kernel_rfl) (by kernel_rfl) (by kernel_rfl) (fun _ => False) (H) ?_
  clear H; intro w4 H hz0 hs0
  try clear C
  try simp only [World.size_alloc, List.nil_append, List.cons_append, List.append_assoc] at H hz0
  clear hz0
  try clear w3
  have C := H.cells
  try simp only [cellsOf, apartOf, and_true] at C
  have Z := H.zs
  try simp only [ltsOf, and_true] at Z
  have hz0 := Nat.le_refl w4.heap.size
  repeat (first | (refine wpX_skip rfl ?_; go_simp) | (refine wpX_free rfl rfl rfl (fun K hK => ?_); go_step; refine hK _ _ ?_; clear hK K) | (refine wpX_load rfl rfl rfl (by simp [Stay, OneD, NoD, *]) hs0 (by simp [*]) (fun K hK => ?_); go_step; refine hK _ _ ?_; clear hK K))
  refine wpX_eff rfl rfl (fun _ _ => ?_)
  go_step
  refine (HF.out _).mono ?_
  rintro _ w5 ⟨rfl, hb⟩
  replace hs0 := hs0.belowS hz0 hb
  replace hz0 := Nat.le_trans hz0 hb.size
  replace H := H.below hb
  clear hb
  try clear C
  have C := H.cells
  try simp only [cellsOf, apartOf, and_true] at C
  try clear w4
  dsimp only
  go_step
  refine ⟨hs0, ?_⟩
  repeat (first | (refine wpX_skip rfl ?_; go_simp) | (refine wpX_free rfl rfl rfl (fun K hK => ?_); go_step; refine hK _ _ ?_; clear hK K) | (refine wpX_load rfl rfl rfl (by simp [Stay, OneD, NoD, *]) hs0 (by simp [*]) (fun K hK => ?_); go_step; refine hK _ _ ?_; clear hK K))
  refine wpX_eff rfl rfl (fun _ _ => ?_)
  go_step
  refine (HG.out _).mono ?_
  rintro _ w6 ⟨rfl, hb⟩
  replace hs0 := hs0.belowS hz0 hb
  replace hz0 := Nat.le_trans hz0 hb.size
  replace H := H.below hb
  clear hb
  try clear C
  have C := H.cells
  try simp only [cellsOf, apartOf, and_true] at C
  try clear w5
  dsimp only
  go_step
  refine ⟨hs0, ?_⟩
  repeat (first | (refine wpX_skip rfl ?_; go_simp) | (refine wpX_free rfl rfl rfl (fun K hK => ?_); go_step; refine hK _ _ ?_; clear hK K) | (refine wpX_load rfl rfl rfl (by simp [Stay, OneD, NoD, *]) hs0 (by simp [*]) (fun K hK => ?_); go_step; refine hK _ _ ?_; clear hK K))
  (refine wpX_nil ?_; go_step)
  go_wp2_with fail
  refine bodyPost_ret (v := .tuple #[.int .i64 (fst a0 a1 a2 a3 a4 a5 so cn bd + dn), .int .i64 (fst a0 a1 a2 a3 a4 a5 so cn sp + dn), .bool true]) (by simp [results, Try.results14, go_sem, *]) rfl ⟨rfl, H.done⟩
theorem next_no {a0 a1 a2 a3 a4 a5 so cn bd sp : Int} (h : RS a0 a1 a2 a3 a4 a5 so cn bd sp) (w : World) : Calls Try.prog 14 #[vS a0 a1 a2 a3 a4 a5 so cn bd sp (rsz a3 a4 a5) true] w (Gives (.tuple #[.int .i64 0, .int .i64 0, .bool false]) w) := by
  have hz := rsz_in h.sv
  have hd : 0 ≤ rsz a3 a4 a5 ∧ rsz a3 a4 a5 ≤ rsz a3 a4 a5 := ⟨by omega, Int.le_refl _⟩
  have HB := Lib.hid (fun w => rvalid_of h hd w)
  have HP := Lib.hid (fun w => words_of h hd w)
  clear hd hz
  go_enter Try.func14, Try.ntmps14
  have H := HS.start NoD w
  go_wp2_with fail
  refine wp_region_xH (by kernel_rfl) (by kernel_rfl) (by kernel_rfl) (by kernel_rfl) (fun _ => False) (H.alloc) ?_
  clear H; intro w1 H hz0 hs0
  try clear C
  try simp only [World.size_alloc, List.nil_append, List.cons_append, List.append_assoc] at H hz0
  generalize w.heap.size = bX at H hz0 ⊢
  clear hz0
  have C := H.cells
  try simp only [cellsOf, apartOf, and_true] at C
  have Z := H.zs
  try simp only [ltsOf, and_true] at Z
  have hz0 := Nat.le_refl w1.heap.size
  repeat (first | (refine wpX_skip rfl ?_; go_simp) | (refine wpX_free rfl rfl rfl (fun K hK => ?_); go_step; refine hK _ _ ?_; clear hK K) | (refine wpX_load rfl rfl rfl (by simp [Stay, OneD, NoD, *]) hs0 (by simp [*]) (fun K hK => ?_); go_step; refine hK _ _ ?_; clear hK K))
  refine wpX_eff rfl rfl (fun _ _ => ?_)
  go_step
  refine (HB.out _).mono ?_
  rintro _ w2 ⟨rfl, hb⟩
  replace hs0 := hs0.belowS hz0 hb
  replace hz0 := Nat.le_trans hz0 hb.size
  replace H := H.below hb
  clear hb
  try clear C
  have C := H.cells
  try simp only [cellsOf, apartOf, and_true] at C
  try clear w1
  dsimp only
  go_step
  refine ⟨hs0, ?_⟩
  repeat (first | (refine wpX_skip rfl ?_; go_simp) | (refine wpX_free rfl rfl rfl (fun K hK => ?_); go_step; refine hK _ _ ?_; clear hK K) | (refine wpX_load rfl rfl rfl (by simp [Stay, OneD, NoD, *]) hs0 (by simp [*]) (fun K hK => ?_); go_step; refine hK _ _ ?_; clear hK K))
  refine wpX_eff rfl rfl (fun _ _ => ?_)
  go_step
  refine (HP.out _).mono ?_
  rintro _ w3 ⟨rfl, hb⟩
  replace hs0 := hs0.belowS hz0 hb
  replace hz0 := Nat.le_trans hz0 hb.size
  replace H := H.below hb
  clear hb
  try clear C
  have C := H.cells
  try simp only [cellsOf, apartOf, and_true] at C
  try clear w2
  dsimp only
  go_step
  refine ⟨hs0, ?_⟩
  repeat (first | (refine wpX_skip rfl ?_; go_simp) | (refine wpX_free rfl rfl rfl (fun K hK => ?_); go_step; refine hK _ _ ?_; clear hK K) | (refine wpX_load rfl rfl rfl (by simp [Stay, OneD, NoD, *]) hs0 (by simp [*]) (fun K hK => ?_); go_step; refine hK _ _ ?_; clear hK K))
  (refine wpX_nil ?_; go_step)
  go_wp2_with fail
  go_ret3
  exact ⟨rfl, H.done⟩
theorem copied_yes {a0 a1 a2 a3 a4 a5 so cn bd sp dn : Int} (h : RS a0 a1 a2 a3 a4 a5 so cn bd sp) (hd : 0 ≤ dn ∧ dn < rsz a3 a4 a5) (w : World) : Calls Try.prog 15 #[vS a0 a1 a2 a3 a4 a5 so cn bd sp dn true] w (Gives (.tuple #[vS a0 a1 a2 a3 a4 a5 so cn bd sp (dn + 1) true, .int .i64 0]) w) := by
  have HN := Lib.hid (fun w => next_yes h hd w)
  have hz := rsz_in h.sv
  have e1 : wrap64 (dn + 1) = dn + 1 := IntWalk.wrap64_in _ (by omega)
  clear hd hz
  go_enter Try.func15, Try.ntmps15
  have H := HS.start NoD w
  go_wp2_with fail
  refine (HN.out _).mono ?_
  rintro _ w1 ⟨rfl, hb⟩
  replace H := H.alloc.alloc.below hb
  clear hb
  try clear C
  try simp only [World.size_alloc, List.nil_append, List.cons_append, List.append_assoc] at H
  generalize w.heap.size + 1 = bR at H ⊢
  generalize w.heap.size = bX at H ⊢
  have C := H.cells
  try simp only [cellsOf, apartOf, and_true] at C
  dsimp only
  go_wp2_with fail
  have zR := H.mine 1 rfl
  have zX := H.mine 0 rfl
  refine bodyPost_ret (v := .tuple #[vS a0 a1 a2 a3 a4 a5 so cn bd sp (dn + 1) true, .int .i64 0]) (by simp [results, Try.results15, go_sem, *]) rfl ⟨rfl, ?_⟩
  repeat refine Below.setCell ?_ (by first | exact zR | exact zX) _
  exact H.done
theorem copied_no {a0 a1 a2 a3 a4 a5 so cn bd sp : Int} (h : RS a0 a1 a2 a3 a4 a5 so cn bd sp) (w : World) : Calls Try.prog 15 #[vS a0 a1 a2 a3 a4 a5 so cn bd sp (rsz a3 a4 a5) true] w (Gives (.tuple #[vS a0 a1 a2 a3 a4 a5 so cn bd sp (rsz a3 a4 a5) true, .int .i64 40]) w) := by
  have HN := Lib.hid (fun w => next_no h w)
  go_enter Try.func15, Try.ntmps15
  have H := HS.start NoD w
  go_wp2_with fail
  refine (HN.out _).mono ?_
  rintro _ w1 ⟨rfl, hb⟩
  replace H := H.alloc.alloc.below hb
  clear hb
  try clear C
  try simp only [World.size_alloc, List.nil_append, List.cons_append, List.append_assoc] at H
  generalize w.heap.size + 1 = bR at H ⊢
  generalize w.heap.size = bX at H ⊢
  have C := H.cells
  try simp only [cellsOf, apartOf, and_true] at C
  dsimp only
  go_wp2_with fail
  have zR := H.mine 1 rfl
  refine bodyPost_ret (v := .tuple #[vS a0 a1 a2 a3 a4 a5 so cn bd sp (rsz a3 a4 a5) true, .int .i64 40]) (by simp [results, Try.results15, go_sem, *]) rfl ⟨rfl, ?_⟩
  repeat refine Below.setCell ?_ zR _
  exact H.done

set_option maxHeartbeats 4000000 in
theorem where_of {a0 a1 a2 a3 a4 a5 so cn bd sp dn i : Int} (h : RS a0 a1 a2 a3 a4 a5 so cn bd sp) (hd : 0 ≤ dn ∧ dn ≤ rsz a3 a4 a5) (hi0 : 0 ≤ i) (hi1 : i < 2 ^ (a0 + a1 + a2 + a3 + a4 + a5).toNat) (w : World) :
    Calls Try.prog 17 #[vS a0 a1 a2 a3 a4 a5 so cn bd sp dn true, .int .i64 i] w (Gives (.tuple #[.int .i64 (whF (rsz a3 a4 a5) (hi3 a1 a2 so cn bd) (hi3 a1 a2 so cn sp) dn i), .int .i64 0]) w) := by
  have HB := Lib.hid (fun w => rvalid_of h hd w)
  have HA := Lib.hid (fun w => at_is h.sv hi0 hi1 w)
  have HG := Lib.hid (fun w => first_of h.sv h.ps bd sp dn true w)
  obtain ⟨R, hR⟩ : ∃ R, R = rsz a3 a4 a5 := ⟨_, rfl⟩
  have hp : ∀ w, Calls Try.prog 23 #[v6 a0 a1 a2 a3 a4 a5] w (Gives (.int .i64 R) w) := fun w => by rw [hR]; exact rsize_of h.sv w
  have HP := Lib.hid hp
  clear hp
  have hz := rsz_in h.sv
  have i2 := fst_in h.sv h.ps
  have hm : i.tmod R = i % R := Int.tmod_eq_emod_of_nonneg hi0
  have hm2 : 0 ≤ i % R ∧ i % R < R := ⟨Int.emod_nonneg _ (by omega), Int.emod_lt_of_pos _ (by omega)⟩
  have e1 : wrap64 (fst a0 a1 a2 a3 a4 a5 so cn sp + i % R) = fst a0 a1 a2 a3 a4 a5 so cn sp + i % R := IntWalk.wrap64_in _ (by omega)
  have hne : (R = 0) = False := eq_false (by omega)
  have hiff : i / R = hi3 a1 a2 so cn bd ↔ ((atF a0 a1 a2 a3 a4 a5 i).a = so ∧ (atF a0 a1 a2 a3 a4 a5 i).b = cn ∧ (atF a0 a1 a2 a3 a4 a5 i).c = bd) := by
    obtain ⟨hp, hd1, hd2⟩ := at_div h.sv hi0 hi1
    rw [hR, hd1]
    exact ⟨fun e => hi3_inj hp h.pb e, fun ⟨x, y, z⟩ => by rw [x, y, z]⟩
  have hfst : fst a0 a1 a2 a3 a4 a5 so cn sp = hi3 a1 a2 so cn sp * R := by
    unfold fst; rw [idx_hilo h.sv, hR]; simp [lo3]
  rw [← hR]
  have HIFF := Lib.hid hiff
  have HFST := Lib.hid hfst
  clear hiff hfst hz i2 hd hR
  go_enter Try.func17, Try.ntmps17
  have H := HS.start NoD w
  go_wp2_with fail
  refine (HB.out _).mono ?_
  rintro _ w1 ⟨rfl, hb⟩
  replace H := H.alloc.below hb
  clear hb
  try clear C
  try simp only [World.size_alloc, List.nil_append, List.cons_append, List.append_assoc] at H
  generalize w.heap.size = bX at H ⊢
  have C := H.cells
  try simp only [cellsOf, apartOf, and_true] at C
  dsimp only
  go_wp2_with fail
  refine (HA.out _).mono ?_
  rintro _ w2 ⟨rfl, hb⟩
  replace H := H.below hb
  clear hb
  try clear C
  try simp only [World.size_alloc, List.nil_append, List.cons_append, List.append_assoc] at H
  try clear w1
  have C := H.cells
  try simp only [cellsOf, apartOf, and_true] at C
  dsimp only
  go_wp2_with fail
  refine (HP.out _).mono ?_
  rintro _ w3 ⟨rfl, hb⟩
  replace H := H.alloc.below hb
  clear hb
  try clear C
  try simp only [World.size_alloc, List.nil_append, List.cons_append, List.append_assoc] at H
  generalize w2.heap.size = bP at H ⊢
  try clear w2
  have C := H.cells
  try simp only [cellsOf, apartOf, and_true] at C
  dsimp only
  go_wp2_with fail
  · have HG2 := HG
    refine (HG.out _).mono ?_
    rintro _ w4 ⟨rfl, hb⟩
    replace H := H.below hb
    clear hb
    try clear C
    try simp only [World.size_alloc, List.nil_append, List.cons_append, List.append_assoc] at H
    try clear w3
    have C := H.cells
    try simp only [cellsOf, apartOf, and_true] at C
    dsimp only
    go_wp2_with fail
    have hh := HIFF.out.2 ⟨‹_›, ‹_›, ‹_›⟩
    refine bodyPost_ret (v := .tuple #[.int .i64 (whF R (hi3 a1 a2 so cn bd) (hi3 a1 a2 so cn sp) dn i), .int .i64 0]) ?_ rfl ⟨rfl, H.done⟩
    simp [results, Try.results17, go_sem, *]
    rw [whF, if_pos ⟨hh, ‹_›⟩, HFST.out]
  all_goals
    have hw : whF R (hi3 a1 a2 so cn bd) (hi3 a1 a2 so cn sp) dn i = i := by
      unfold whF
      rw [if_neg]
      rintro ⟨e, e2⟩
      obtain ⟨x, y, z⟩ := HIFF.out.1 e
      first | contradiction | omega
    rw [hw]
    go_ret2
    exact ⟨rfl, H.done⟩
end Go.Proofs.Ytaeockopliplfaa
