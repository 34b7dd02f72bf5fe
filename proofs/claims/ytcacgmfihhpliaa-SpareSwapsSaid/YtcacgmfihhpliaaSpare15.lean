/- Spares that are not valid, places and words that are not there: what both packages answer. -/
import Derived.Test.YtcacgmfihhpliaaSpare14
import Derived.Test.YtcacgmfihhpliaaSpare10
import Derived.Test.YtcacgmfihhpliaaRef5
namespace Go.Proofs.Ytcacgmfihhpliaa
set_option linter.unusedSimpArgs false
set_option linter.unusedVariables false
open Go.RowKit
set_option maxRecDepth 100000
attribute [local go_sem] lt_more ne_more ne_more'
attribute [local irreducible] wpX wpF Calls

theorem sswap_bad {a0 a1 a2 a3 a4 a5 n p0 p1 p2 p3 p4 p5 : Int} {xs : List S8} {c : Nat} {sa : Option Addr} (hv : ∀ w, Lies w w.heap.size sa 8 xs.length (fun j => sC xs[j]!) → Calls Try.prog 24 #[vSp a0 a1 a2 a3 a4 a5 n (.slice sa xs.length c)] w (Gives (.bool false) w)) (w : World) (hl : Lies w w.heap.size sa 8 xs.length (fun j => sC xs[j]!)) :
    Calls Try.prog 26 #[vSp a0 a1 a2 a3 a4 a5 n (.slice sa xs.length c), v6 p0 p1 p2 p3 p4 p5] w (Gives (.tuple #[vSp 0 0 0 0 0 0 0 (.slice none 0 0), .int .i64 1]) w) := by
  have HL := Lib.hid hl
  have HV := Lib.hid hv
  clear hl hv
  go_enter Try.func26, Try.ntmps26
  have H := HS.start NoD w
  go_wp2_with fail
  refine (HV.out _ (H.alloc.alloc.alloc.liesUp HL.out)).mono ?_
  rintro _ w1 ⟨rfl, hb⟩
  replace H := H.alloc.alloc.alloc.below hb
  clear hb
  try clear C
  try simp only [World.size_alloc, List.nil_append, List.cons_append, List.append_assoc] at H
  generalize w.heap.size + 2 = bR at H ⊢
  generalize w.heap.size + 1 = bP at H ⊢
  generalize w.heap.size = bX at H ⊢
  have C := H.cells
  try simp only [cellsOf, apartOf, and_true] at C
  dsimp only
  go_wp2_with fail
  generalize hwb : (((((((w1.setCell _ _).setCell _ _).setCell _ _).setCell _ _).setCell _ _).setCell _ _).setCell _ _).setCell _ _ = w2
  replace H := HS.eqW hwb (H.putAll (i := 2) rfl (vs := [.int .i64 0, .int .i64 0, .int .i64 0, .int .i64 0, .int .i64 0, .int .i64 0, .int .i64 0, .slice none 0 0]) rfl rfl)
  simp only [List.nil_append, List.cons_append, List.append_assoc, List.set_cons_succ, List.set_cons_zero] at H
  clear hwb
  try clear C
  try clear w1
  have C := H.cells
  try simp only [cellsOf, apartOf, and_true] at C
  refine bodyPost_ret (by simp [results, Try.results26, go_sem, C]; try rfl) rfl ?_
  exact ⟨rfl, H.done⟩
theorem qswap_bad {a0 a1 a2 a3 a4 a5 n p0 p1 p2 p3 p4 p5 : Int} {xs : List S8} {c : Nat} {sa : Option Addr} (hv : ∀ w, Lies w w.heap.size sa 8 xs.length (fun j => sC xs[j]!) → Calls Try.prog 25 #[vSp a0 a1 a2 a3 a4 a5 n (.slice sa xs.length c)] w (Gives (.bool false) w)) (w : World) (hl : Lies w w.heap.size sa 8 xs.length (fun j => sC xs[j]!)) :
    Calls Try.prog 27 #[vSp a0 a1 a2 a3 a4 a5 n (.slice sa xs.length c), v6 p0 p1 p2 p3 p4 p5] w (Gives (.tuple #[vSp 0 0 0 0 0 0 0 (.slice none 0 0), .int .i64 1]) w) := by
  have HL := Lib.hid hl
  have HV := Lib.hid hv
  clear hl hv
  go_enter Try.func27, Try.ntmps27
  have H := HS.start NoD w
  go_wp2_with fail
  refine (HV.out _ (H.alloc.alloc.alloc.liesUp HL.out)).mono ?_
  rintro _ w1 ⟨rfl, hb⟩
  replace H := H.alloc.alloc.alloc.below hb
  clear hb
  try clear C
  try simp only [World.size_alloc, List.nil_append, List.cons_append, List.append_assoc] at H
  generalize w.heap.size + 2 = bR at H ⊢
  generalize w.heap.size + 1 = bP at H ⊢
  generalize w.heap.size = bX at H ⊢
  have C := H.cells
  try simp only [cellsOf, apartOf, and_true] at C
  dsimp only
  go_wp2_with fail
  generalize hwb : (((((((w1.setCell _ _).setCell _ _).setCell _ _).setCell _ _).setCell _ _).setCell _ _).setCell _ _).setCell _ _ = w2
  replace H := HS.eqW hwb (H.putAll (i := 2) rfl (vs := [.int .i64 0, .int .i64 0, .int .i64 0, .int .i64 0, .int .i64 0, .int .i64 0, .int .i64 0, .slice none 0 0]) rfl rfl)
  simp only [List.nil_append, List.cons_append, List.append_assoc, List.set_cons_succ, List.set_cons_zero] at H
  clear hwb
  try clear C
  try clear w1
  have C := H.cells
  try simp only [cellsOf, apartOf, and_true] at C
  refine bodyPost_ret (by simp [results, Try.results27, go_sem, C]; try rfl) rfl ?_
  exact ⟨rfl, H.done⟩
theorem sswap_out {a0 a1 a2 a3 a4 a5 n p0 p1 p2 p3 p4 p5 : Int} {xs : List S8} {c : Nat} (h : SpV a0 a1 a2 a3 a4 a5 n xs c) (hp : ¬ PV a0 a1 a2 a3 a4 a5 p0 p1 p2 p3 p4 p5) {sa : Option Addr} (w : World) (hl : Lies w w.heap.size sa 8 xs.length (fun j => sC xs[j]!)) :
    Calls Try.prog 26 #[vSp a0 a1 a2 a3 a4 a5 n (.slice sa xs.length c), v6 p0 p1 p2 p3 p4 p5] w (Gives (.tuple #[vSp 0 0 0 0 0 0 0 (.slice none 0 0), .int .i64 2]) w) := by
  have HL := Lib.hid hl
  clear hl
  have HV := Lib.hid (fun w hl => h.valid (sa := sa) w hl)
  have HP := Lib.hid (fun w => by have := validPlace_any h.sv (p0 := p0) (p1 := p1) (p2 := p2) (p3 := p3) (p4 := p4) (p5 := p5) w; rw [decide_eq_false hp] at this; exact this : ∀ w, Calls Try.prog 58 #[v6 a0 a1 a2 a3 a4 a5, v6 p0 p1 p2 p3 p4 p5] w (Gives (.bool false) w))
  clear hp
  go_enter Try.func26, Try.ntmps26
  have H := HS.start NoD w
  go_wp2_with fail
  refine (HV.out _ (H.alloc.alloc.alloc.liesUp HL.out)).mono ?_
  rintro _ w1 ⟨rfl, hb⟩
  replace H := H.alloc.alloc.alloc.below hb
  clear hb
  try clear C
  try simp only [World.size_alloc, List.nil_append, List.cons_append, List.append_assoc] at H
  generalize w.heap.size + 2 = bR at H ⊢
  generalize w.heap.size + 1 = bP at H ⊢
  generalize w.heap.size = bX at H ⊢
  have C := H.cells
  try simp only [cellsOf, apartOf, and_true] at C
  dsimp only
  go_wp2_with fail
  refine (HP.out _).mono ?_
  rintro _ w2 ⟨rfl, hb⟩
  replace H := H.below hb
  clear hb
  try clear C
  try simp only [World.size_alloc, List.nil_append, List.cons_append, List.append_assoc] at H
  try clear w1
  have C := H.cells
  try simp only [cellsOf, apartOf, and_true] at C
  dsimp only
  go_wp2_with fail
  generalize hwb : (((((((w2.setCell _ _).setCell _ _).setCell _ _).setCell _ _).setCell _ _).setCell _ _).setCell _ _).setCell _ _ = w3
  replace H := HS.eqW hwb (H.putAll (i := 2) rfl (vs := [.int .i64 0, .int .i64 0, .int .i64 0, .int .i64 0, .int .i64 0, .int .i64 0, .int .i64 0, .slice none 0 0]) rfl rfl)
  simp only [List.nil_append, List.cons_append, List.append_assoc, List.set_cons_succ, List.set_cons_zero] at H
  clear hwb
  try clear C
  try clear w2
  have C := H.cells
  try simp only [cellsOf, apartOf, and_true] at C
  refine bodyPost_ret (by simp [results, Try.results26, go_sem, C]; try rfl) rfl ?_
  exact ⟨rfl, H.done⟩
theorem qswap_out {a0 a1 a2 a3 a4 a5 n p0 p1 p2 p3 p4 p5 : Int} {xs : List S8} {c : Nat} (h : SpV a0 a1 a2 a3 a4 a5 n xs c) (hp : ¬ PV a0 a1 a2 a3 a4 a5 p0 p1 p2 p3 p4 p5) {sa : Option Addr} (w : World) (hl : Lies w w.heap.size sa 8 xs.length (fun j => sC xs[j]!)) :
    Calls Try.prog 27 #[vSp a0 a1 a2 a3 a4 a5 n (.slice sa xs.length c), v6 p0 p1 p2 p3 p4 p5] w (Gives (.tuple #[vSp 0 0 0 0 0 0 0 (.slice none 0 0), .int .i64 2]) w) := by
  have HL := Lib.hid hl
  clear hl
  have HV := Lib.hid (fun w hl => h.qvalid (sa := sa) w hl)
  have HP := Lib.hid (fun w => by have := rvalidPlace_any h.sv (p0 := p0) (p1 := p1) (p2 := p2) (p3 := p3) (p4 := p4) (p5 := p5) w; rw [decide_eq_false hp] at this; exact this : ∀ w, Calls Try.prog 56 #[v6 a0 a1 a2 a3 a4 a5, v6 p0 p1 p2 p3 p4 p5] w (Gives (.bool false) w))
  clear hp
  go_enter Try.func27, Try.ntmps27
  have H := HS.start NoD w
  go_wp2_with fail
  refine (HV.out _ (H.alloc.alloc.alloc.liesUp HL.out)).mono ?_
  rintro _ w1 ⟨rfl, hb⟩
  replace H := H.alloc.alloc.alloc.below hb
  clear hb
  try clear C
  try simp only [World.size_alloc, List.nil_append, List.cons_append, List.append_assoc] at H
  generalize w.heap.size + 2 = bR at H ⊢
  generalize w.heap.size + 1 = bP at H ⊢
  generalize w.heap.size = bX at H ⊢
  have C := H.cells
  try simp only [cellsOf, apartOf, and_true] at C
  dsimp only
  go_upto_region 3 with fail
  refine wp_region_xH (by kernel_rfl) (by kernel_rfl) (by kernel_rfl) (by kernel_rfl) (fun _ => False) (H) ?_
  clear H; intro w2 H hz0 hs0
  try clear C
  try simp only [World.size_alloc, List.nil_append, List.cons_append, List.append_assoc] at H hz0
  clear hz0
  try clear w1
  have C := H.cells
  try simp only [cellsOf, apartOf, and_true] at C
  have Z := H.zs
  try simp only [ltsOf, and_true] at Z
  have hz0 := Nat.le_refl w2.heap.size
  repeat (first | (refine wpX_skip rfl ?_; go_simp) | (refine wpX_free rfl rfl rfl (fun K hK => ?_); go_step; refine hK _ _ ?_; clear hK K) | (refine wpX_load rfl rfl rfl (by simp [Stay, OneD, NoD, *]) hs0 (by simp [*]) (fun K hK => ?_); go_step; refine hK _ _ ?_; clear hK K))
  refine wpX_eff rfl rfl (fun _ _ => ?_)
  go_step
  refine (HP.out _).mono ?_
  rintro _ w3 ⟨rfl, hb⟩
  replace hs0 := hs0.belowS hz0 hb
  replace hz0 := Nat.le_trans hz0 hb.size
  replace H := H.below hb
  clear hb
  try clear C
  have C := H.cells
  try simp only [cellsOf, apartOf, and_true] at C
  try clear w2
  dsimp only
  go_step
  refine ⟨hs0, ?_⟩
  repeat (first | (refine wpX_skip rfl ?_; go_simp) | (refine wpX_free rfl rfl rfl (fun K hK => ?_); go_step; refine hK _ _ ?_; clear hK K) | (refine wpX_load rfl rfl rfl (by simp [Stay, OneD, NoD, *]) hs0 (by simp [*]) (fun K hK => ?_); go_step; refine hK _ _ ?_; clear hK K))
  (refine wpX_nil ?_; go_step)
  go_wp2_with fail
  generalize hwb : (((((((w3.setCell _ _).setCell _ _).setCell _ _).setCell _ _).setCell _ _).setCell _ _).setCell _ _).setCell _ _ = w4
  replace H := HS.eqW hwb (H.putAll (i := 2) rfl (vs := [.int .i64 0, .int .i64 0, .int .i64 0, .int .i64 0, .int .i64 0, .int .i64 0, .int .i64 0, .slice none 0 0]) rfl rfl)
  simp only [List.nil_append, List.cons_append, List.append_assoc, List.set_cons_succ, List.set_cons_zero] at H
  clear hwb
  try clear C
  try clear w3
  have C := H.cells
  try simp only [cellsOf, apartOf, and_true] at C
  refine bodyPost_ret (by simp [results, Try.results27, go_sem, C]; try rfl) rfl ?_
  exact ⟨rfl, H.done⟩
theorem sleft_bad {a0 a1 a2 a3 a4 a5 n p0 p1 p2 p3 p4 p5 : Int} {xs : List S8} {c : Nat} {sa : Option Addr} (hv : ∀ w, Lies w w.heap.size sa 8 xs.length (fun j => sC xs[j]!) → Calls Try.prog 24 #[vSp a0 a1 a2 a3 a4 a5 n (.slice sa xs.length c)] w (Gives (.bool false) w)) (w : World) (hl : Lies w w.heap.size sa 8 xs.length (fun j => sC xs[j]!)) :
    Calls Try.prog 28 #[vSp a0 a1 a2 a3 a4 a5 n (.slice sa xs.length c), v6 p0 p1 p2 p3 p4 p5] w (Gives (.int .i64 0) w) := by
  have HL := Lib.hid hl
  have HV := Lib.hid hv
  clear hl hv
  go_enter Try.func28, Try.ntmps28
  have H := HS.start NoD w
  go_wp2_with fail
  refine (HV.out _ (H.alloc.alloc.liesUp HL.out)).mono ?_
  rintro _ w1 ⟨rfl, hb⟩
  replace H := H.alloc.alloc.below hb
  clear hb
  try clear C
  try simp only [World.size_alloc, List.nil_append, List.cons_append, List.append_assoc] at H
  generalize w.heap.size + 1 = bP at H ⊢
  generalize w.heap.size = bX at H ⊢
  have C := H.cells
  try simp only [cellsOf, apartOf, and_true] at C
  dsimp only
  go_wp2_with fail
  go_ret
  exact ⟨rfl, H.done⟩
theorem qleft_bad {a0 a1 a2 a3 a4 a5 n p0 p1 p2 p3 p4 p5 : Int} {xs : List S8} {c : Nat} {sa : Option Addr} (hv : ∀ w, Lies w w.heap.size sa 8 xs.length (fun j => sC xs[j]!) → Calls Try.prog 25 #[vSp a0 a1 a2 a3 a4 a5 n (.slice sa xs.length c)] w (Gives (.bool false) w)) (w : World) (hl : Lies w w.heap.size sa 8 xs.length (fun j => sC xs[j]!)) :
    Calls Try.prog 29 #[vSp a0 a1 a2 a3 a4 a5 n (.slice sa xs.length c), v6 p0 p1 p2 p3 p4 p5] w (Gives (.int .i64 0) w) := by
  have HL := Lib.hid hl
  have HV := Lib.hid hv
  clear hl hv
  go_enter Try.func29, Try.ntmps29
  have H := HS.start NoD w
  go_wp2_with fail
  refine (HV.out _ (H.alloc.alloc.liesUp HL.out)).mono ?_
  rintro _ w1 ⟨rfl, hb⟩
  replace H := H.alloc.alloc.below hb
  clear hb
  try clear C
  try simp only [World.size_alloc, List.nil_append, List.cons_append, List.append_assoc] at H
  generalize w.heap.size + 1 = bP at H ⊢
  generalize w.heap.size = bX at H ⊢
  have C := H.cells
  try simp only [cellsOf, apartOf, and_true] at C
  dsimp only
  go_wp2_with fail
  go_ret
  exact ⟨rfl, H.done⟩
theorem sleft_out {a0 a1 a2 a3 a4 a5 n p0 p1 p2 p3 p4 p5 : Int} {xs : List S8} {c : Nat} (h : SpV a0 a1 a2 a3 a4 a5 n xs c) (hp : ¬ PV a0 a1 a2 a3 a4 a5 p0 p1 p2 p3 p4 p5) {sa : Option Addr} (w : World) (hl : Lies w w.heap.size sa 8 xs.length (fun j => sC xs[j]!)) :
    Calls Try.prog 28 #[vSp a0 a1 a2 a3 a4 a5 n (.slice sa xs.length c), v6 p0 p1 p2 p3 p4 p5] w (Gives (.int .i64 0) w) := by
  have HL := Lib.hid hl
  clear hl
  have HV := Lib.hid (fun w hl => h.valid (sa := sa) w hl)
  have HP := Lib.hid (fun w => by have := validPlace_any h.sv (p0 := p0) (p1 := p1) (p2 := p2) (p3 := p3) (p4 := p4) (p5 := p5) w; rw [decide_eq_false hp] at this; exact this : ∀ w, Calls Try.prog 58 #[v6 a0 a1 a2 a3 a4 a5, v6 p0 p1 p2 p3 p4 p5] w (Gives (.bool false) w))
  clear hp
  go_enter Try.func28, Try.ntmps28
  have H := HS.start NoD w
  go_wp2_with fail
  refine (HV.out _ (H.alloc.alloc.liesUp HL.out)).mono ?_
  rintro _ w1 ⟨rfl, hb⟩
  replace H := H.alloc.alloc.below hb
  clear hb
  try clear C
  try simp only [World.size_alloc, List.nil_append, List.cons_append, List.append_assoc] at H
  generalize w.heap.size + 1 = bP at H ⊢
  generalize w.heap.size = bX at H ⊢
  have C := H.cells
  try simp only [cellsOf, apartOf, and_true] at C
  dsimp only
  go_wp2_with fail
  refine (HP.out _).mono ?_
  rintro _ w2 ⟨rfl, hb⟩
  replace H := H.below hb
  clear hb
  try clear C
  try simp only [World.size_alloc, List.nil_append, List.cons_append, List.append_assoc] at H
  try clear w1
  have C := H.cells
  try simp only [cellsOf, apartOf, and_true] at C
  dsimp only
  go_wp2_with fail
  go_ret
  exact ⟨rfl, H.done⟩
theorem qleft_out {a0 a1 a2 a3 a4 a5 n p0 p1 p2 p3 p4 p5 : Int} {xs : List S8} {c : Nat} (h : SpV a0 a1 a2 a3 a4 a5 n xs c) (hp : ¬ PV a0 a1 a2 a3 a4 a5 p0 p1 p2 p3 p4 p5) {sa : Option Addr} (w : World) (hl : Lies w w.heap.size sa 8 xs.length (fun j => sC xs[j]!)) :
    Calls Try.prog 29 #[vSp a0 a1 a2 a3 a4 a5 n (.slice sa xs.length c), v6 p0 p1 p2 p3 p4 p5] w (Gives (.int .i64 0) w) := by
  have HL := Lib.hid hl
  clear hl
  have HV := Lib.hid (fun w hl => h.qvalid (sa := sa) w hl)
  have HP := Lib.hid (fun w => by have := rvalidPlace_any h.sv (p0 := p0) (p1 := p1) (p2 := p2) (p3 := p3) (p4 := p4) (p5 := p5) w; rw [decide_eq_false hp] at this; exact this : ∀ w, Calls Try.prog 56 #[v6 a0 a1 a2 a3 a4 a5, v6 p0 p1 p2 p3 p4 p5] w (Gives (.bool false) w))
  clear hp
  go_enter Try.func29, Try.ntmps29
  have H := HS.start NoD w
  go_wp2_with fail
  refine (HV.out _ (H.alloc.alloc.liesUp HL.out)).mono ?_
  rintro _ w1 ⟨rfl, hb⟩
  replace H := H.alloc.alloc.below hb
  clear hb
  try clear C
  try simp only [World.size_alloc, List.nil_append, List.cons_append, List.append_assoc] at H
  generalize w.heap.size + 1 = bP at H ⊢
  generalize w.heap.size = bX at H ⊢
  have C := H.cells
  try simp only [cellsOf, apartOf, and_true] at C
  dsimp only
  go_wp2_with fail
  refine (HP.out _).mono ?_
  rintro _ w2 ⟨rfl, hb⟩
  replace H := H.below hb
  clear hb
  try clear C
  try simp only [World.size_alloc, List.nil_append, List.cons_append, List.append_assoc] at H
  try clear w1
  have C := H.cells
  try simp only [cellsOf, apartOf, and_true] at C
  dsimp only
  go_wp2_with fail
  go_ret
  exact ⟨rfl, H.done⟩
theorem qleft_of {a0 a1 a2 a3 a4 a5 n p0 p1 p2 p3 p4 p5 : Int} {xs : List S8} {c : Nat} (h : SpV a0 a1 a2 a3 a4 a5 n xs c) (hp : PV a0 a1 a2 a3 a4 a5 p0 p1 p2 p3 p4 p5) {sa : Option Addr} (w : World) (hl : Lies w w.heap.size sa 8 xs.length (fun j => sC xs[j]!)) :
    Calls Try.prog 29 #[vSp a0 a1 a2 a3 a4 a5 n (.slice sa xs.length c), v6 p0 p1 p2 p3 p4 p5] w (Gives (.int .i64 (freeK (rwz a4 - n) p0 p1 p2 p3 xs n.toNat).length) w) := by
  have HL := Lib.hid hl
  clear hl
  have HV := Lib.hid (fun w hl => h.qvalid (sa := sa) w hl)
  have HP := Lib.hid (fun w => rvalidPlace_yes h.sv hp w)
  have HU := Lib.hid (fun w hl => qfree_of h.sv h.n0 p0 p1 p2 p3 p4 p5 (sa := sa) c (xs := xs) (by have := h.len; omega) w hl)
  go_enter Try.func29, Try.ntmps29
  have H := HS.start NoD w
  go_wp2_with fail
  refine (HV.out _ (H.alloc.alloc.liesUp HL.out)).mono ?_
  rintro _ w1 ⟨rfl, hb⟩
  replace H := H.alloc.alloc.below hb
  clear hb
  try clear C
  try simp only [World.size_alloc, List.nil_append, List.cons_append, List.append_assoc] at H
  generalize w.heap.size + 1 = bP at H ⊢
  generalize w.heap.size = bX at H ⊢
  have C := H.cells
  try simp only [cellsOf, apartOf, and_true] at C
  dsimp only
  go_wp2_with fail
  refine (HP.out _).mono ?_
  rintro _ w2 ⟨rfl, hb⟩
  replace H := H.below hb
  clear hb
  try clear C
  try simp only [World.size_alloc, List.nil_append, List.cons_append, List.append_assoc] at H
  try clear w1
  have C := H.cells
  try simp only [cellsOf, apartOf, and_true] at C
  dsimp only
  go_wp2_with fail
  refine (HU.out _ (H.liesUp HL.out)).mono ?_
  rintro _ w3 ⟨s1, d1, rfl, hr, hb⟩
  replace H := (H).getsRow hb hr
  clear hb hr
  try clear C
  try simp only [World.size_alloc, List.nil_append, List.cons_append, List.append_assoc] at H
  try clear w2
  have C := H.cells
  try simp only [cellsOf, apartOf, and_true] at C
  dsimp only
  go_wp2_with fail
  go_ret
  exact ⟨rfl, H.done⟩
theorem sturn_bad {a0 a1 a2 a3 a4 a5 n i : Int} {xs : List S8} {c : Nat} {sa : Option Addr} (hv : ∀ w, Lies w w.heap.size sa 8 xs.length (fun j => sC xs[j]!) → Calls Try.prog 24 #[vSp a0 a1 a2 a3 a4 a5 n (.slice sa xs.length c)] w (Gives (.bool false) w)) (w : World) (hl : Lies w w.heap.size sa 8 xs.length (fun j => sC xs[j]!)) :
    Calls Try.prog 32 #[vSp a0 a1 a2 a3 a4 a5 n (.slice sa xs.length c), .int .i64 i] w (Gives (.tuple #[.int .i64 0, .int .i64 1]) w) := by
  have HL := Lib.hid hl
  have HV := Lib.hid hv
  clear hl hv
  go_enter Try.func32, Try.ntmps32
  have H := HS.start NoD w
  go_wp2_with fail
  refine (HV.out _ (H.alloc.liesUp HL.out)).mono ?_
  rintro _ w1 ⟨rfl, hb⟩
  replace H := H.alloc.below hb
  clear hb
  try clear C
  try simp only [World.size_alloc, List.nil_append, List.cons_append, List.append_assoc] at H
  generalize w.heap.size = bX at H ⊢
  have C := H.cells
  try simp only [cellsOf, apartOf, and_true] at C
  dsimp only
  go_wp2_with fail
  go_ret2
  exact ⟨rfl, H.done⟩
theorem qturn_bad {a0 a1 a2 a3 a4 a5 n i : Int} {xs : List S8} {c : Nat} {sa : Option Addr} (hv : ∀ w, Lies w w.heap.size sa 8 xs.length (fun j => sC xs[j]!) → Calls Try.prog 25 #[vSp a0 a1 a2 a3 a4 a5 n (.slice sa xs.length c)] w (Gives (.bool false) w)) (w : World) (hl : Lies w w.heap.size sa 8 xs.length (fun j => sC xs[j]!)) :
    Calls Try.prog 33 #[vSp a0 a1 a2 a3 a4 a5 n (.slice sa xs.length c), .int .i64 i] w (Gives (.tuple #[.int .i64 0, .int .i64 1]) w) := by
  have HL := Lib.hid hl
  have HV := Lib.hid hv
  clear hl hv
  go_enter Try.func33, Try.ntmps33
  have H := HS.start NoD w
  go_wp2_with fail
  refine (HV.out _ (H.alloc.liesUp HL.out)).mono ?_
  rintro _ w1 ⟨rfl, hb⟩
  replace H := H.alloc.below hb
  clear hb
  try clear C
  try simp only [World.size_alloc, List.nil_append, List.cons_append, List.append_assoc] at H
  generalize w.heap.size = bX at H ⊢
  have C := H.cells
  try simp only [cellsOf, apartOf, and_true] at C
  dsimp only
  go_wp2_with fail
  go_ret2
  exact ⟨rfl, H.done⟩
theorem qturn_out {a0 a1 a2 a3 a4 a5 n i : Int} {xs : List S8} {c : Nat} (h : SpV a0 a1 a2 a3 a4 a5 n xs c) (hi : ¬ (0 ≤ i ∧ i < 2 ^ (a0 + a1 + a2 + a3 + a4 + a5).toNat)) {sa : Option Addr} (w : World) (hl : Lies w w.heap.size sa 8 xs.length (fun j => sC xs[j]!)) :
    Calls Try.prog 33 #[vSp a0 a1 a2 a3 a4 a5 n (.slice sa xs.length c), .int .i64 i] w (Gives (.tuple #[.int .i64 0, .int .i64 2]) w) := by
  have HL := Lib.hid hl
  clear hl
  have HV := Lib.hid (fun w hl => h.qvalid (sa := sa) w hl)
  have HA := Lib.hid (fun w => rat_out h.sv hi w)
  clear hi
  go_enter Try.func33, Try.ntmps33
  have H := HS.start NoD w
  go_wp2_with fail
  refine (HV.out _ (H.alloc.liesUp HL.out)).mono ?_
  rintro _ w1 ⟨rfl, hb⟩
  replace H := H.alloc.below hb
  clear hb
  try clear C
  try simp only [World.size_alloc, List.nil_append, List.cons_append, List.append_assoc] at H
  generalize w.heap.size = bX at H ⊢
  have C := H.cells
  try simp only [cellsOf, apartOf, and_true] at C
  dsimp only
  go_wp2_with fail
  refine (HA.out _).mono ?_
  rintro _ w2 ⟨rfl, hb⟩
  replace H := H.below hb
  clear hb
  try clear C
  try simp only [World.size_alloc, List.nil_append, List.cons_append, List.append_assoc] at H
  try clear w1
  have C := H.cells
  try simp only [cellsOf, apartOf, and_true] at C
  dsimp only
  go_wp2_with fail
  go_ret2
  exact ⟨rfl, by first | exact H.done | exact H.skipAlloc.done⟩
theorem sres_bad {a0 a1 a2 a3 a4 a5 n i : Int} {xs : List S8} {c : Nat} {sa : Option Addr} (hv : ∀ w, Lies w w.heap.size sa 8 xs.length (fun j => sC xs[j]!) → Calls Try.prog 24 #[vSp a0 a1 a2 a3 a4 a5 n (.slice sa xs.length c)] w (Gives (.bool false) w)) (w : World) (hl : Lies w w.heap.size sa 8 xs.length (fun j => sC xs[j]!)) :
    Calls Try.prog 34 #[vSp a0 a1 a2 a3 a4 a5 n (.slice sa xs.length c), .int .i64 i] w (Gives (.bool false) w) := by
  have HL := Lib.hid hl
  have HV := Lib.hid hv
  clear hl hv
  go_enter Try.func34, Try.ntmps34
  have H := HS.start NoD w
  go_wp2_with fail
  refine (HV.out _ (H.alloc.liesUp HL.out)).mono ?_
  rintro _ w1 ⟨rfl, hb⟩
  replace H := H.alloc.below hb
  clear hb
  try clear C
  try simp only [World.size_alloc, List.nil_append, List.cons_append, List.append_assoc] at H
  generalize w.heap.size = bX at H ⊢
  have C := H.cells
  try simp only [cellsOf, apartOf, and_true] at C
  dsimp only
  go_wp2_with fail
  go_ret
  exact ⟨rfl, H.done⟩
theorem sres_out {a0 a1 a2 a3 a4 a5 n i : Int} {xs : List S8} {c : Nat} (h : SpV a0 a1 a2 a3 a4 a5 n xs c) (hi : ¬ (0 ≤ i ∧ i < 2 ^ (a0 + a1 + a2 + a3 + a4 + a5).toNat)) {sa : Option Addr} (w : World) (hl : Lies w w.heap.size sa 8 xs.length (fun j => sC xs[j]!)) :
    Calls Try.prog 34 #[vSp a0 a1 a2 a3 a4 a5 n (.slice sa xs.length c), .int .i64 i] w (Gives (.bool false) w) := by
  have HL := Lib.hid hl
  clear hl
  have HV := Lib.hid (fun w hl => h.valid (sa := sa) w hl)
  have HA := Lib.hid (fun w => at_out h.sv hi w)
  clear hi
  go_enter Try.func34, Try.ntmps34
  have H := HS.start NoD w
  go_wp2_with fail
  refine (HV.out _ (H.alloc.liesUp HL.out)).mono ?_
  rintro _ w1 ⟨rfl, hb⟩
  replace H := H.alloc.below hb
  clear hb
  try clear C
  try simp only [World.size_alloc, List.nil_append, List.cons_append, List.append_assoc] at H
  generalize w.heap.size = bX at H ⊢
  have C := H.cells
  try simp only [cellsOf, apartOf, and_true] at C
  dsimp only
  go_wp2_with fail
  refine (HA.out _).mono ?_
  rintro _ w2 ⟨rfl, hb⟩
  replace H := H.below hb
  clear hb
  try clear C
  try simp only [World.size_alloc, List.nil_append, List.cons_append, List.append_assoc] at H
  try clear w1
  have C := H.cells
  try simp only [cellsOf, apartOf, and_true] at C
  dsimp only
  go_wp2_with fail
  go_ret
  exact ⟨rfl, by first | exact H.done | exact H.skipAlloc.done⟩
end Go.Proofs.Ytcacgmfihhpliaa
