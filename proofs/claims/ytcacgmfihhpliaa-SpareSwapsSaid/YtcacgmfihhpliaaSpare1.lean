/- Package spare: rows, sized, reserved, bank, New. -/
import Derived.Test.YtcacgmfihhpliaaRow
import Derived.Test.YtcacgmfihhpliaaPart3
import Derived.Deep.CutRange
import Derived.Deep.CutBlock
namespace Go.Proofs.Ytcacgmfihhpliaa
set_option linter.unusedSimpArgs false
set_option linter.unusedVariables false
open Go.RowKit
set_option maxRecDepth 100000
attribute [local go_sem] lt_more ne_more ne_more'
attribute [local irreducible] wpX wpF Calls

structure S8 where
  p0 : Int
  p1 : Int
  p2 : Int
  p3 : Int
  p4 : Int
  p5 : Int
  r : Int
  s : Int
deriving Inhabited, DecidableEq
def sC (x : S8) : List Value := [.int .i64 x.p0, .int .i64 x.p1, .int .i64 x.p2, .int .i64 x.p3, .int .i64 x.p4, .int .i64 x.p5, .int .i64 x.r, .int .i64 x.s]
theorem sC_len (x : S8) : (sC x).length = 8 := rfl
@[reducible] def vSp (a0 a1 a2 a3 a4 a5 n : Int) (v : Value) : Value := .agg #[.int .i64 a0, .int .i64 a1, .int .i64 a2, .int .i64 a3, .int .i64 a4, .int .i64 a5, .int .i64 n, v]
/-- How many rows a bank has. -/
def rwz (a4 : Int) : Int := 2 ^ a4.toNat
theorem rwz_in {a0 a1 a2 a3 a4 a5 : Int} (h : SV a0 a1 a2 a3 a4 a5) : 1 ≤ rwz a4 ∧ rwz a4 ≤ 4096 := by
  have h1 := pw_12 (a := a4) (by have := h.he; omega)
  have h2 := pw_pos a4
  unfold rwz
  omega
theorem srows_of {a0 a1 a2 a3 a4 a5 : Int} (h : SV a0 a1 a2 a3 a4 a5) (w : World) : Calls Try.prog 79 #[v6 a0 a1 a2 a3 a4 a5] w (Gives (.int .i64 (rwz a4)) w) := by
  have h4 := h.he
  have q1 := wrap_pw (a := a4) (by omega)
  go_enter Try.func79, Try.ntmps79
  have H := HS.start NoD w
  go_wp2_with fail
  go_ret
  exact ⟨by simp [rwz, q1], H.alloc.done⟩
theorem ssized_of {a0 a1 a2 a3 a4 a5 : Int} (h : SV a0 a1 a2 a3 a4 a5) (n : Int) (w : World) : Calls Try.prog 52 #[v6 a0 a1 a2 a3 a4 a5, .int .i64 n] w (Gives (.bool (decide (0 ≤ n ∧ n < rwz a4))) w) := by
  have HR := Lib.hid (fun w => srows_of h w)
  by_cases hn : 0 ≤ n
  · go_enter Try.func52, Try.ntmps52
    have H := HS.start NoD w
    go_wp2_with fail
    refine (HR.out _).mono ?_
    rintro _ w1 ⟨rfl, hb⟩
    replace H := H.alloc.below hb
    clear hb
    try clear C
    try simp only [World.size_alloc, List.nil_append, List.cons_append, List.append_assoc] at H
    generalize w.heap.size = bS at H ⊢
    have C := H.cells
    try simp only [cellsOf, apartOf, and_true] at C
    dsimp only
    go_wp2_with fail
    go_ret
    exact ⟨by simp [hn], H.done⟩
  · go_enter Try.func52, Try.ntmps52
    have H := HS.start NoD w
    go_wp2_with fail
    go_ret
    refine ⟨?_, H.alloc.done⟩
    first | (rw [decide_eq_false (show ¬ (0 ≤ n) by omega)]; rfl) | (rw [decide_eq_false (show ¬ (0 ≤ n ∧ n < rwz a4) by omega)]; rfl)
theorem reserved_of {a0 a1 a2 a3 a4 a5 n : Int} (h : SV a0 a1 a2 a3 a4 a5) (hn : 0 ≤ n ∧ n < rwz a4) (sa : Option Addr) (m c : Nat) (row : Int) (w : World) : Calls Try.prog 59 #[vSp a0 a1 a2 a3 a4 a5 n (.slice sa m c), .int .i64 row] w (Gives (.bool (decide (rwz a4 - n ≤ row))) w) := by
  have HR := Lib.hid (fun w => srows_of h w)
  have hz := rwz_in h
  generalize rwz a4 = R at *
  go_enter Try.func59, Try.ntmps59
  have H := HS.start NoD w
  go_wp2_with fail
  refine wp_region_xH (by kernel_rfl) (by kernel_rfl) (by kernel_rfl) (by kernel_rfl) (fun _ => False) (H.alloc) ?_
  clear H; intro w1 H hz0 hs0
  try clear C
  try simp only [World.size_alloc, List.nil_append, List.cons_append, List.append_assoc] at H hz0
  generalize w.heap.size = bX at H hz0 ⊢
  clear hz0
  have C := H.cells
  try simp only [cellsOf, apartOf, and_true] at C
  have Z := H.zs
  try simp only [ltsOf, and_true] at Z
  have hz0 := Nat.le_refl w1.heap.size
  repeat (first | (refine wpX_skip rfl ?_; go_simp) | (refine wpX_free rfl rfl rfl (fun K hK => ?_); go_step; refine hK _ _ ?_; clear hK K) | (refine wpX_load rfl rfl rfl (by simp [Stay, OneD, NoD, *]) hs0 (by simp [*]) (fun K hK => ?_); go_step; refine hK _ _ ?_; clear hK K))
  refine wpX_eff rfl rfl (fun _ _ => ?_)
  go_step
  refine (HR.out _).mono ?_
  rintro _ w2 ⟨rfl, hb⟩
  replace hs0 := hs0.belowS hz0 hb
  replace hz0 := Nat.le_trans hz0 hb.size
  replace H := H.below hb
  clear hb
  try clear C
  have C := H.cells
  try simp only [cellsOf, apartOf, and_true] at C
  try clear w1
  dsimp only
  go_step
  refine ⟨hs0, ?_⟩
  repeat (first | (refine wpX_skip rfl ?_; go_simp) | (refine wpX_free rfl rfl rfl (fun K hK => ?_); go_step; refine hK _ _ ?_; clear hK K) | (refine wpX_load rfl rfl rfl (by simp [Stay, OneD, NoD, *]) hs0 (by simp [*]) (fun K hK => ?_); go_step; refine hK _ _ ?_; clear hK K))
  (refine wpX_nil ?_; go_step)
  go_wp2_with fail
  go_ret
  exact ⟨rfl, H.done⟩
theorem sbank_of (p0 p1 p2 p3 p4 p5 : Int) (w : World) : Calls Try.prog 62 #[v6 p0 p1 p2 p3 p4 p5] w (Gives (v6 p0 p1 p2 p3 0 0) w) := by
  go_enter Try.func62, Try.ntmps62
  have H := HS.start NoD w
  go_wp2_with fail
  go_returns
  refine ⟨rfl, ?_⟩
  go_grown
theorem snew_yes {a0 a1 a2 a3 a4 a5 n : Int} (h : SV a0 a1 a2 a3 a4 a5) (hn : 0 ≤ n ∧ n < rwz a4) (w : World) : Calls Try.prog 21 #[v6 a0 a1 a2 a3 a4 a5, .int .i64 n] w (Gives (.tuple #[vSp a0 a1 a2 a3 a4 a5 n (.slice none 0 0), .int .i64 0]) w) := by
  have HV := Lib.hid (fun w => valid_yes h w)
  have HZ := Lib.hid (fun w => by have := ssized_of h n w; rw [decide_eq_true hn] at this; exact this : ∀ w, Calls Try.prog 52 #[v6 a0 a1 a2 a3 a4 a5, .int .i64 n] w (Gives (.bool true) w))
  go_enter Try.func21, Try.ntmps21
  have H := HS.start NoD w
  go_wp2_with fail
  refine (HV.out _).mono ?_
  rintro _ w1 ⟨rfl, hb⟩
  replace H := H.alloc.alloc.below hb
  clear hb
  try clear C
  try simp only [World.size_alloc, List.nil_append, List.cons_append, List.append_assoc] at H
  generalize w.heap.size + 1 = bR at H ⊢
  generalize w.heap.size = bS at H ⊢
  have C := H.cells
  try simp only [cellsOf, apartOf, and_true] at C
  dsimp only
  go_wp2_with fail
  refine (HZ.out _).mono ?_
  rintro _ w2 ⟨rfl, hb⟩
  replace H := H.below hb
  clear hb
  try clear C
  try simp only [World.size_alloc, List.nil_append, List.cons_append, List.append_assoc] at H
  try clear w1
  have C := H.cells
  try simp only [cellsOf, apartOf, and_true] at C
  dsimp only
  go_wp2_with fail
  generalize hwb : (((((((w2.setCell _ _).setCell _ _).setCell _ _).setCell _ _).setCell _ _).setCell _ _).setCell _ _).setCell _ _ = w3
  replace H := HS.eqW hwb (H.putAll (i := 1) rfl (vs := [.int .i64 a0, .int .i64 a1, .int .i64 a2, .int .i64 a3, .int .i64 a4, .int .i64 a5, .int .i64 n, .slice none 0 0]) rfl rfl)
  simp only [List.nil_append, List.cons_append, List.append_assoc, List.set_cons_succ, List.set_cons_zero] at H
  clear hwb
  try clear C
  try clear w2
  have C := H.cells
  try simp only [cellsOf, apartOf, and_true] at C
  refine bodyPost_ret (by simp [results, Try.results21, go_sem, C]; try rfl) rfl ?_
  exact ⟨rfl, H.done⟩
theorem snew_bad {a0 a1 a2 a3 a4 a5 : Int} (h : ¬ SV a0 a1 a2 a3 a4 a5) (n : Int) (w : World) : Calls Try.prog 21 #[v6 a0 a1 a2 a3 a4 a5, .int .i64 n] w (Gives (.tuple #[vSp 0 0 0 0 0 0 0 (.slice none 0 0), .int .i64 1]) w) := by
  have HV := Lib.hid (fun w => valid_no h w)
  go_enter Try.func21, Try.ntmps21
  have H := HS.start NoD w
  go_wp2_with fail
  refine (HV.out _).mono ?_
  rintro _ w1 ⟨rfl, hb⟩
  replace H := H.alloc.alloc.below hb
  clear hb
  try clear C
  try simp only [World.size_alloc, List.nil_append, List.cons_append, List.append_assoc] at H
  generalize w.heap.size + 1 = bR at H ⊢
  generalize w.heap.size = bS at H ⊢
  have C := H.cells
  try simp only [cellsOf, apartOf, and_true] at C
  dsimp only
  go_wp2_with fail
  generalize hwb : (((((((w1.setCell _ _).setCell _ _).setCell _ _).setCell _ _).setCell _ _).setCell _ _).setCell _ _).setCell _ _ = w2
  replace H := HS.eqW hwb (H.putAll (i := 1) rfl (vs := [.int .i64 0, .int .i64 0, .int .i64 0, .int .i64 0, .int .i64 0, .int .i64 0, .int .i64 0, .slice none 0 0]) rfl rfl)
  simp only [List.nil_append, List.cons_append, List.append_assoc, List.set_cons_succ, List.set_cons_zero] at H
  clear hwb
  try clear C
  try clear w1
  have C := H.cells
  try simp only [cellsOf, apartOf, and_true] at C
  refine bodyPost_ret (by simp [results, Try.results21, go_sem, C]; try rfl) rfl ?_
  exact ⟨rfl, H.done⟩
theorem snew_range {a0 a1 a2 a3 a4 a5 n : Int} (h : SV a0 a1 a2 a3 a4 a5) (hn : ¬ (0 ≤ n ∧ n < rwz a4)) (w : World) : Calls Try.prog 21 #[v6 a0 a1 a2 a3 a4 a5, .int .i64 n] w (Gives (.tuple #[vSp 0 0 0 0 0 0 0 (.slice none 0 0), .int .i64 2]) w) := by
  have HV := Lib.hid (fun w => valid_yes h w)
  have HZ := Lib.hid (fun w => by have := ssized_of h n w; rw [decide_eq_false hn] at this; exact this : ∀ w, Calls Try.prog 52 #[v6 a0 a1 a2 a3 a4 a5, .int .i64 n] w (Gives (.bool false) w))
  go_enter Try.func21, Try.ntmps21
  have H := HS.start NoD w
  go_wp2_with fail
  refine (HV.out _).mono ?_
  rintro _ w1 ⟨rfl, hb⟩
  replace H := H.alloc.alloc.below hb
  clear hb
  try clear C
  try simp only [World.size_alloc, List.nil_append, List.cons_append, List.append_assoc] at H
  generalize w.heap.size + 1 = bR at H ⊢
  generalize w.heap.size = bS at H ⊢
  have C := H.cells
  try simp only [cellsOf, apartOf, and_true] at C
  dsimp only
  go_wp2_with fail
  refine (HZ.out _).mono ?_
  rintro _ w2 ⟨rfl, hb⟩
  replace H := H.below hb
  clear hb
  try clear C
  try simp only [World.size_alloc, List.nil_append, List.cons_append, List.append_assoc] at H
  try clear w1
  have C := H.cells
  try simp only [cellsOf, apartOf, and_true] at C
  dsimp only
  go_wp2_with fail
  generalize hwb : (((((((w2.setCell _ _).setCell _ _).setCell _ _).setCell _ _).setCell _ _).setCell _ _).setCell _ _).setCell _ _ = w3
  replace H := HS.eqW hwb (H.putAll (i := 1) rfl (vs := [.int .i64 0, .int .i64 0, .int .i64 0, .int .i64 0, .int .i64 0, .int .i64 0, .int .i64 0, .slice none 0 0]) rfl rfl)
  simp only [List.nil_append, List.cons_append, List.append_assoc, List.set_cons_succ, List.set_cons_zero] at H
  clear hwb
  try clear C
  try clear w2
  have C := H.cells
  try simp only [cellsOf, apartOf, and_true] at C
  refine bodyPost_ret (by simp [results, Try.results21, go_sem, C]; try rfl) rfl ?_
  exact ⟨rfl, H.done⟩
end Go.Proofs.Ytcacgmfihhpliaa
