/- Operations of programs: what is valid by the reference. -/
import Derived.Test.YthpoanlmaafanaaPgA
namespace Go.Proofs.Ythpoanlmaafanaa
set_option linter.unusedSimpArgs false
set_option linter.unusedVariables false
open Go.RowKit
set_option maxRecDepth 100000
attribute [local irreducible] wpX wpF Calls

set_option maxHeartbeats 16000000 in
theorem prvalid_any (size : Int) (x : Ox) (w : World) : Calls Try.prog 33 #[.int .i64 size, vOx x] w (Gives (.bool (validO size x)) w) := by
  obtain ⟨R, hR⟩ : ∃ R, R = validO size x := ⟨_, rfl⟩
  rw [← hR]
  unfold validO at hR
  obtain ⟨k, p, g, wd, ot, sa, n, c⟩ := x
  dsimp only at hR
  show Calls Try.prog 33 #[.int .i64 size, .agg #[.int .i64 k, .int .i64 p, .int .i64 g, .int .i64 wd, .int .i64 ot, .slice sa n c]] w _
  by_cases a0 : size < 1
  case pos =>
    rw [show inB size 1 32 = false from inB_f.2 (.inl a0)] at hR
    have HR := Lib.hid hR
    clear hR
    go_enter Try.func33, Try.ntmps33
    have H := HS.start NoD w
    go_upto_region 1 with fail
    generalize hwb : w.alloc _ = w1
    replace H := HS.eqW hwb H.alloc
    try simp only [World.size_alloc, List.nil_append, List.cons_append, List.append_assoc] at H
    clear hwb
    generalize w.heap.size = bX at H ⊢
    try clear C
    have C := H.cells
    try simp only [cellsOf, cellsM, apartOf, apartM, and_true] at C
    go_wp2_with fail
    go_ret
    exact ⟨by rw [HR.out]; first | rfl | (simp; done) | (simp; omega) | simp_all, H.done⟩
  by_cases a1 : 32 < size
  case pos =>
    rw [show inB size 1 32 = false from inB_f.2 (.inr a1)] at hR
    have HR := Lib.hid hR
    clear hR
    go_enter Try.func33, Try.ntmps33
    have H := HS.start NoD w
    go_upto_region 1 with fail
    generalize hwb : w.alloc _ = w1
    replace H := HS.eqW hwb H.alloc
    try simp only [World.size_alloc, List.nil_append, List.cons_append, List.append_assoc] at H
    clear hwb
    generalize w.heap.size = bX at H ⊢
    try clear C
    have C := H.cells
    try simp only [cellsOf, cellsM, apartOf, apartM, and_true] at C
    go_wp2_with fail
    go_ret
    exact ⟨by rw [HR.out]; first | rfl | (simp; done) | (simp; omega) | simp_all, H.done⟩
  rw [show inB size 1 32 = true from inB_t.2 (by omega)] at hR
  by_cases a2 : p < 1
  case pos =>
    rw [show inB p 1 999 = false from inB_f.2 (.inl a2)] at hR
    have HR := Lib.hid hR
    clear hR
    go_enter Try.func33, Try.ntmps33
    have H := HS.start NoD w
    go_upto_region 1 with fail
    generalize hwb : w.alloc _ = w1
    replace H := HS.eqW hwb H.alloc
    try simp only [World.size_alloc, List.nil_append, List.cons_append, List.append_assoc] at H
    clear hwb
    generalize w.heap.size = bX at H ⊢
    try clear C
    have C := H.cells
    try simp only [cellsOf, cellsM, apartOf, apartM, and_true] at C
    go_wp2_with fail
    go_ret
    exact ⟨by rw [HR.out]; first | rfl | (simp; done) | (simp; omega) | simp_all, H.done⟩
  by_cases a3 : 999 < p
  case pos =>
    rw [show inB p 1 999 = false from inB_f.2 (.inr a3)] at hR
    have HR := Lib.hid hR
    clear hR
    go_enter Try.func33, Try.ntmps33
    have H := HS.start NoD w
    go_upto_region 1 with fail
    generalize hwb : w.alloc _ = w1
    replace H := HS.eqW hwb H.alloc
    try simp only [World.size_alloc, List.nil_append, List.cons_append, List.append_assoc] at H
    clear hwb
    generalize w.heap.size = bX at H ⊢
    try clear C
    have C := H.cells
    try simp only [cellsOf, cellsM, apartOf, apartM, and_true] at C
    go_wp2_with fail
    go_ret
    exact ⟨by rw [HR.out]; first | rfl | (simp; done) | (simp; omega) | simp_all, H.done⟩
  rw [show inB p 1 999 = true from inB_t.2 (by omega)] at hR
  by_cases a4 : g < 0
  case pos =>
    rw [show inB g 0 999 = false from inB_f.2 (.inl a4)] at hR
    have HR := Lib.hid hR
    clear hR
    go_enter Try.func33, Try.ntmps33
    have H := HS.start NoD w
    go_upto_region 1 with fail
    generalize hwb : w.alloc _ = w1
    replace H := HS.eqW hwb H.alloc
    try simp only [World.size_alloc, List.nil_append, List.cons_append, List.append_assoc] at H
    clear hwb
    generalize w.heap.size = bX at H ⊢
    try clear C
    have C := H.cells
    try simp only [cellsOf, cellsM, apartOf, apartM, and_true] at C
    go_wp2_with fail
    go_ret
    exact ⟨by rw [HR.out]; first | rfl | (simp; done) | (simp; omega) | simp_all, H.done⟩
  by_cases a5 : 999 < g
  case pos =>
    rw [show inB g 0 999 = false from inB_f.2 (.inr a5)] at hR
    have HR := Lib.hid hR
    clear hR
    go_enter Try.func33, Try.ntmps33
    have H := HS.start NoD w
    go_upto_region 1 with fail
    generalize hwb : w.alloc _ = w1
    replace H := HS.eqW hwb H.alloc
    try simp only [World.size_alloc, List.nil_append, List.cons_append, List.append_assoc] at H
    clear hwb
    generalize w.heap.size = bX at H ⊢
    try clear C
    have C := H.cells
    try simp only [cellsOf, cellsM, apartOf, apartM, and_true] at C
    go_wp2_with fail
    go_ret
    exact ⟨by rw [HR.out]; first | rfl | (simp; done) | (simp; omega) | simp_all, H.done⟩
  rw [show inB g 0 999 = true from inB_t.2 (by omega)] at hR
  obtain ⟨b4, hb4⟩ : ∃ b, b = inB wd 0 3 := ⟨_, rfl⟩
  rw [← hb4] at hR
  rw [show ∀ b : Bool, (true && true && true && b) = b from fun b => rfl] at hR
  by_cases k1 : k = 1
  · subst k1
    simp only [reduceIte, if_neg, if_pos, Int.reduceEq, or_true, true_or, or_false, false_or, or_self] at hR
    by_cases v0 : wd < 0
    · try rw [show b4 = false from hb4.trans (inB_f.2 (.inl v0))] at hR
      have v1 : ¬ (0 : Int) ≤ wd := by omega
      clear hb4
      have HR := Lib.hid hR
      clear hR
      go_enter Try.func33, Try.ntmps33
      have H := HS.start NoD w
      go_upto_region 1 with fail
      generalize hwb : w.alloc _ = w1
      replace H := HS.eqW hwb H.alloc
      try simp only [World.size_alloc, List.nil_append, List.cons_append, List.append_assoc] at H
      clear hwb
      generalize w.heap.size = bX at H ⊢
      try clear C
      have C := H.cells
      try simp only [cellsOf, cellsM, apartOf, apartM, and_true] at C
      go_wp2_with fail
      go_ret
      exact ⟨by rw [HR.out]; first | rfl | (simp; done) | (simp; omega) | simp_all, H.done⟩
    by_cases v1 : 3 < wd
    · try rw [show b4 = false from hb4.trans (inB_f.2 (.inr v1))] at hR
      have v2 : (0 : Int) ≤ wd := by omega
      have v3 : ¬ wd < 4 := by omega
      clear hb4
      have HR := Lib.hid hR
      clear hR
      go_enter Try.func33, Try.ntmps33
      have H := HS.start NoD w
      go_upto_region 1 with fail
      generalize hwb : w.alloc _ = w1
      replace H := HS.eqW hwb H.alloc
      try simp only [World.size_alloc, List.nil_append, List.cons_append, List.append_assoc] at H
      clear hwb
      generalize w.heap.size = bX at H ⊢
      try clear C
      have C := H.cells
      try simp only [cellsOf, cellsM, apartOf, apartM, and_true] at C
      go_wp2_with fail
      go_ret
      exact ⟨by rw [HR.out]; first | rfl | (simp; done) | (simp; omega) | simp_all, H.done⟩
    try rw [show b4 = true from hb4.trans (inB_t.2 (by omega))] at hR
    have v2 : (0 : Int) ≤ wd := by omega
    have v3 : wd < 4 := by omega
    clear v0 v1 hb4
    by_cases n0 : n = 0
    case neg =>
      have n9 : ((n : Int) == 0) = false := beq_eq_false_iff_ne.2 (by omega)
      have HR := Lib.hid hR
      clear hR
      go_enter Try.func33, Try.ntmps33
      have H := HS.start NoD w
      go_upto_region 1 with fail
      generalize hwb : w.alloc _ = w1
      replace H := HS.eqW hwb H.alloc
      try simp only [World.size_alloc, List.nil_append, List.cons_append, List.append_assoc] at H
      clear hwb
      generalize w.heap.size = bX at H ⊢
      try clear C
      have C := H.cells
      try simp only [cellsOf, cellsM, apartOf, apartM, and_true] at C
      go_wp2_with fail
      go_ret
      exact ⟨by rw [HR.out]; first | rfl | (simp; done) | (simp; omega) | simp_all, H.done⟩
    subst n0
    by_cases o0 : ot = 0
    case neg =>
      have o9 : (ot == 0) = false := beq_eq_false_iff_ne.2 o0
      have HR := Lib.hid hR
      clear hR
      go_enter Try.func33, Try.ntmps33
      have H := HS.start NoD w
      go_upto_region 1 with fail
      generalize hwb : w.alloc _ = w1
      replace H := HS.eqW hwb H.alloc
      try simp only [World.size_alloc, List.nil_append, List.cons_append, List.append_assoc] at H
      clear hwb
      generalize w.heap.size = bX at H ⊢
      try clear C
      have C := H.cells
      try simp only [cellsOf, cellsM, apartOf, apartM, and_true] at C
      go_wp2_with fail
      go_ret
      exact ⟨by rw [HR.out]; first | rfl | (simp; done) | (simp; omega) | simp_all, H.done⟩
    subst o0
    have HR := Lib.hid hR
    clear hR
    go_enter Try.func33, Try.ntmps33
    have H := HS.start NoD w
    go_upto_region 1 with fail
    generalize hwb : w.alloc _ = w1
    replace H := HS.eqW hwb H.alloc
    try simp only [World.size_alloc, List.nil_append, List.cons_append, List.append_assoc] at H
    clear hwb
    generalize w.heap.size = bX at H ⊢
    try clear C
    have C := H.cells
    try simp only [cellsOf, cellsM, apartOf, apartM, and_true] at C
    go_wp2_with fail
    go_ret
    exact ⟨by rw [HR.out]; first | rfl | (simp; done) | (simp; omega) | simp_all, H.done⟩
  have e1 : (k == 1) = false := beq_eq_false_iff_ne.2 k1
  by_cases k2 : k = 2
  · subst k2
    simp only [reduceIte, if_neg, if_pos, Int.reduceEq, or_true, true_or, or_false, false_or, or_self] at hR
    by_cases v0 : wd < 0
    · try rw [show b4 = false from hb4.trans (inB_f.2 (.inl v0))] at hR
      have v1 : ¬ (0 : Int) ≤ wd := by omega
      clear hb4
      have HR := Lib.hid hR
      clear hR
      go_enter Try.func33, Try.ntmps33
      have H := HS.start NoD w
      go_upto_region 1 with fail
      generalize hwb : w.alloc _ = w1
      replace H := HS.eqW hwb H.alloc
      try simp only [World.size_alloc, List.nil_append, List.cons_append, List.append_assoc] at H
      clear hwb
      generalize w.heap.size = bX at H ⊢
      try clear C
      have C := H.cells
      try simp only [cellsOf, cellsM, apartOf, apartM, and_true] at C
      go_wp2_with fail
      go_ret
      exact ⟨by rw [HR.out]; first | rfl | (simp; done) | (simp; omega) | simp_all, H.done⟩
    by_cases v1 : 3 < wd
    · try rw [show b4 = false from hb4.trans (inB_f.2 (.inr v1))] at hR
      have v2 : (0 : Int) ≤ wd := by omega
      have v3 : ¬ wd < 4 := by omega
      clear hb4
      have HR := Lib.hid hR
      clear hR
      go_enter Try.func33, Try.ntmps33
      have H := HS.start NoD w
      go_upto_region 1 with fail
      generalize hwb : w.alloc _ = w1
      replace H := HS.eqW hwb H.alloc
      try simp only [World.size_alloc, List.nil_append, List.cons_append, List.append_assoc] at H
      clear hwb
      generalize w.heap.size = bX at H ⊢
      try clear C
      have C := H.cells
      try simp only [cellsOf, cellsM, apartOf, apartM, and_true] at C
      go_wp2_with fail
      go_ret
      exact ⟨by rw [HR.out]; first | rfl | (simp; done) | (simp; omega) | simp_all, H.done⟩
    try rw [show b4 = true from hb4.trans (inB_t.2 (by omega))] at hR
    have v2 : (0 : Int) ≤ wd := by omega
    have v3 : wd < 4 := by omega
    clear v0 v1 hb4
    by_cases n0 : (n : Int) = size
    case neg =>
      have n9 : ((n : Int) == size) = false := beq_eq_false_iff_ne.2 n0
      have HR := Lib.hid hR
      clear hR
      go_enter Try.func33, Try.ntmps33
      have H := HS.start NoD w
      go_upto_region 1 with fail
      generalize hwb : w.alloc _ = w1
      replace H := HS.eqW hwb H.alloc
      try simp only [World.size_alloc, List.nil_append, List.cons_append, List.append_assoc] at H
      clear hwb
      generalize w.heap.size = bX at H ⊢
      try clear C
      have C := H.cells
      try simp only [cellsOf, cellsM, apartOf, apartM, and_true] at C
      go_wp2_with fail
      go_ret
      exact ⟨by rw [HR.out]; first | rfl | (simp; done) | (simp; omega) | simp_all, H.done⟩
    by_cases o0 : ot = 0
    case neg =>
      have o9 : (ot == 0) = false := beq_eq_false_iff_ne.2 o0
      have HR := Lib.hid hR
      clear hR
      go_enter Try.func33, Try.ntmps33
      have H := HS.start NoD w
      go_upto_region 1 with fail
      generalize hwb : w.alloc _ = w1
      replace H := HS.eqW hwb H.alloc
      try simp only [World.size_alloc, List.nil_append, List.cons_append, List.append_assoc] at H
      clear hwb
      generalize w.heap.size = bX at H ⊢
      try clear C
      have C := H.cells
      try simp only [cellsOf, cellsM, apartOf, apartM, and_true] at C
      go_wp2_with fail
      go_ret
      exact ⟨by rw [HR.out]; first | rfl | (simp; done) | (simp; omega) | simp_all, H.done⟩
    subst o0
    have HR := Lib.hid hR
    clear hR
    go_enter Try.func33, Try.ntmps33
    have H := HS.start NoD w
    go_upto_region 1 with fail
    generalize hwb : w.alloc _ = w1
    replace H := HS.eqW hwb H.alloc
    try simp only [World.size_alloc, List.nil_append, List.cons_append, List.append_assoc] at H
    clear hwb
    generalize w.heap.size = bX at H ⊢
    try clear C
    have C := H.cells
    try simp only [cellsOf, cellsM, apartOf, apartM, and_true] at C
    go_wp2_with fail
    go_ret
    exact ⟨by rw [HR.out]; first | rfl | (simp; done) | (simp; omega) | simp_all, H.done⟩
  have e2 : (k == 2) = false := beq_eq_false_iff_ne.2 k2
  by_cases k3 : k = 3
  · subst k3
    simp only [reduceIte, if_neg, if_pos, Int.reduceEq, or_true, true_or, or_false, false_or, or_self] at hR
    by_cases v0 : wd < 0
    · try rw [show b4 = false from hb4.trans (inB_f.2 (.inl v0))] at hR
      have v1 : ¬ (0 : Int) ≤ wd := by omega
      have w9 : (wd == 0) = false := beq_eq_false_iff_ne.2 (by omega)
      have w8 : ¬ wd = 0 := by omega
      have HR := Lib.hid hR
      clear hR
      go_enter Try.func33, Try.ntmps33
      have H := HS.start NoD w
      go_upto_region 1 with fail
      generalize hwb : w.alloc _ = w1
      replace H := HS.eqW hwb H.alloc
      try simp only [World.size_alloc, List.nil_append, List.cons_append, List.append_assoc] at H
      clear hwb
      generalize w.heap.size = bX at H ⊢
      try clear C
      have C := H.cells
      try simp only [cellsOf, cellsM, apartOf, apartM, and_true] at C
      go_wp2_with fail
      go_ret
      exact ⟨by rw [HR.out]; first | rfl | (simp; done) | (simp; omega) | simp_all, H.done⟩
    by_cases v1 : 3 < wd
    · try rw [show b4 = false from hb4.trans (inB_f.2 (.inr v1))] at hR
      have v2 : (0 : Int) ≤ wd := by omega
      have v3 : ¬ wd < 4 := by omega
      have w9 : (wd == 0) = false := beq_eq_false_iff_ne.2 (by omega)
      have w8 : ¬ wd = 0 := by omega
      have HR := Lib.hid hR
      clear hR
      go_enter Try.func33, Try.ntmps33
      have H := HS.start NoD w
      go_upto_region 1 with fail
      generalize hwb : w.alloc _ = w1
      replace H := HS.eqW hwb H.alloc
      try simp only [World.size_alloc, List.nil_append, List.cons_append, List.append_assoc] at H
      clear hwb
      generalize w.heap.size = bX at H ⊢
      try clear C
      have C := H.cells
      try simp only [cellsOf, cellsM, apartOf, apartM, and_true] at C
      go_wp2_with fail
      go_ret
      exact ⟨by rw [HR.out]; first | rfl | (simp; done) | (simp; omega) | simp_all, H.done⟩
    try rw [show b4 = true from hb4.trans (inB_t.2 (by omega))] at hR
    have v2 : (0 : Int) ≤ wd := by omega
    have v3 : wd < 4 := by omega
    clear v0 v1 hb4
    by_cases w0 : wd = 0
    case neg =>
      have w9 : (wd == 0) = false := beq_eq_false_iff_ne.2 w0
      have HR := Lib.hid hR
      clear hR
      go_enter Try.func33, Try.ntmps33
      have H := HS.start NoD w
      go_upto_region 1 with fail
      generalize hwb : w.alloc _ = w1
      replace H := HS.eqW hwb H.alloc
      try simp only [World.size_alloc, List.nil_append, List.cons_append, List.append_assoc] at H
      clear hwb
      generalize w.heap.size = bX at H ⊢
      try clear C
      have C := H.cells
      try simp only [cellsOf, cellsM, apartOf, apartM, and_true] at C
      go_wp2_with fail
      go_ret
      exact ⟨by rw [HR.out]; first | rfl | (simp; done) | (simp; omega) | simp_all, H.done⟩
    subst w0
    by_cases o0 : ot = 0
    case neg =>
      have o9 : (ot == 0) = false := beq_eq_false_iff_ne.2 o0
      have HR := Lib.hid hR
      clear hR
      go_enter Try.func33, Try.ntmps33
      have H := HS.start NoD w
      go_upto_region 1 with fail
      generalize hwb : w.alloc _ = w1
      replace H := HS.eqW hwb H.alloc
      try simp only [World.size_alloc, List.nil_append, List.cons_append, List.append_assoc] at H
      clear hwb
      generalize w.heap.size = bX at H ⊢
      try clear C
      have C := H.cells
      try simp only [cellsOf, cellsM, apartOf, apartM, and_true] at C
      go_wp2_with fail
      go_ret
      exact ⟨by rw [HR.out]; first | rfl | (simp; done) | (simp; omega) | simp_all, H.done⟩
    subst o0
    by_cases n0 : n = 0
    case neg =>
      have n9 : ((n : Int) == 0) = false := beq_eq_false_iff_ne.2 (by omega)
      have HR := Lib.hid hR
      clear hR
      go_enter Try.func33, Try.ntmps33
      have H := HS.start NoD w
      go_upto_region 1 with fail
      generalize hwb : w.alloc _ = w1
      replace H := HS.eqW hwb H.alloc
      try simp only [World.size_alloc, List.nil_append, List.cons_append, List.append_assoc] at H
      clear hwb
      generalize w.heap.size = bX at H ⊢
      try clear C
      have C := H.cells
      try simp only [cellsOf, cellsM, apartOf, apartM, and_true] at C
      go_wp2_with fail
      go_ret
      exact ⟨by rw [HR.out]; first | rfl | (simp; done) | (simp; omega) | simp_all, H.done⟩
    subst n0
    have HR := Lib.hid hR
    clear hR
    go_enter Try.func33, Try.ntmps33
    have H := HS.start NoD w
    go_upto_region 1 with fail
    generalize hwb : w.alloc _ = w1
    replace H := HS.eqW hwb H.alloc
    try simp only [World.size_alloc, List.nil_append, List.cons_append, List.append_assoc] at H
    clear hwb
    generalize w.heap.size = bX at H ⊢
    try clear C
    have C := H.cells
    try simp only [cellsOf, cellsM, apartOf, apartM, and_true] at C
    go_wp2_with fail
    go_ret
    exact ⟨by rw [HR.out]; first | rfl | (simp; done) | (simp; omega) | simp_all, H.done⟩
  have e3 : (k == 3) = false := beq_eq_false_iff_ne.2 k3
  by_cases k5 : k = 5
  · subst k5
    simp only [reduceIte, if_neg, if_pos, Int.reduceEq, or_true, true_or, or_false, false_or, or_self] at hR
    by_cases v0 : wd < 0
    · try rw [show b4 = false from hb4.trans (inB_f.2 (.inl v0))] at hR
      have v1 : ¬ (0 : Int) ≤ wd := by omega
      have w9 : (wd == 0) = false := beq_eq_false_iff_ne.2 (by omega)
      have w8 : ¬ wd = 0 := by omega
      have HR := Lib.hid hR
      clear hR
      go_enter Try.func33, Try.ntmps33
      have H := HS.start NoD w
      go_upto_region 1 with fail
      generalize hwb : w.alloc _ = w1
      replace H := HS.eqW hwb H.alloc
      try simp only [World.size_alloc, List.nil_append, List.cons_append, List.append_assoc] at H
      clear hwb
      generalize w.heap.size = bX at H ⊢
      try clear C
      have C := H.cells
      try simp only [cellsOf, cellsM, apartOf, apartM, and_true] at C
      go_wp2_with fail
      go_ret
      exact ⟨by rw [HR.out]; first | rfl | (simp; done) | (simp; omega) | simp_all, H.done⟩
    by_cases v1 : 3 < wd
    · try rw [show b4 = false from hb4.trans (inB_f.2 (.inr v1))] at hR
      have v2 : (0 : Int) ≤ wd := by omega
      have v3 : ¬ wd < 4 := by omega
      have w9 : (wd == 0) = false := beq_eq_false_iff_ne.2 (by omega)
      have w8 : ¬ wd = 0 := by omega
      have HR := Lib.hid hR
      clear hR
      go_enter Try.func33, Try.ntmps33
      have H := HS.start NoD w
      go_upto_region 1 with fail
      generalize hwb : w.alloc _ = w1
      replace H := HS.eqW hwb H.alloc
      try simp only [World.size_alloc, List.nil_append, List.cons_append, List.append_assoc] at H
      clear hwb
      generalize w.heap.size = bX at H ⊢
      try clear C
      have C := H.cells
      try simp only [cellsOf, cellsM, apartOf, apartM, and_true] at C
      go_wp2_with fail
      go_ret
      exact ⟨by rw [HR.out]; first | rfl | (simp; done) | (simp; omega) | simp_all, H.done⟩
    try rw [show b4 = true from hb4.trans (inB_t.2 (by omega))] at hR
    have v2 : (0 : Int) ≤ wd := by omega
    have v3 : wd < 4 := by omega
    clear v0 v1 hb4
    by_cases w0 : wd = 0
    case neg =>
      have w9 : (wd == 0) = false := beq_eq_false_iff_ne.2 w0
      have HR := Lib.hid hR
      clear hR
      go_enter Try.func33, Try.ntmps33
      have H := HS.start NoD w
      go_upto_region 1 with fail
      generalize hwb : w.alloc _ = w1
      replace H := HS.eqW hwb H.alloc
      try simp only [World.size_alloc, List.nil_append, List.cons_append, List.append_assoc] at H
      clear hwb
      generalize w.heap.size = bX at H ⊢
      try clear C
      have C := H.cells
      try simp only [cellsOf, cellsM, apartOf, apartM, and_true] at C
      go_wp2_with fail
      go_ret
      exact ⟨by rw [HR.out]; first | rfl | (simp; done) | (simp; omega) | simp_all, H.done⟩
    subst w0
    by_cases o0 : ot = 0
    case neg =>
      have o9 : (ot == 0) = false := beq_eq_false_iff_ne.2 o0
      have HR := Lib.hid hR
      clear hR
      go_enter Try.func33, Try.ntmps33
      have H := HS.start NoD w
      go_upto_region 1 with fail
      generalize hwb : w.alloc _ = w1
      replace H := HS.eqW hwb H.alloc
      try simp only [World.size_alloc, List.nil_append, List.cons_append, List.append_assoc] at H
      clear hwb
      generalize w.heap.size = bX at H ⊢
      try clear C
      have C := H.cells
      try simp only [cellsOf, cellsM, apartOf, apartM, and_true] at C
      go_wp2_with fail
      go_ret
      exact ⟨by rw [HR.out]; first | rfl | (simp; done) | (simp; omega) | simp_all, H.done⟩
    subst o0
    by_cases n0 : n = 0
    case neg =>
      have n9 : ((n : Int) == 0) = false := beq_eq_false_iff_ne.2 (by omega)
      have HR := Lib.hid hR
      clear hR
      go_enter Try.func33, Try.ntmps33
      have H := HS.start NoD w
      go_upto_region 1 with fail
      generalize hwb : w.alloc _ = w1
      replace H := HS.eqW hwb H.alloc
      try simp only [World.size_alloc, List.nil_append, List.cons_append, List.append_assoc] at H
      clear hwb
      generalize w.heap.size = bX at H ⊢
      try clear C
      have C := H.cells
      try simp only [cellsOf, cellsM, apartOf, apartM, and_true] at C
      go_wp2_with fail
      go_ret
      exact ⟨by rw [HR.out]; first | rfl | (simp; done) | (simp; omega) | simp_all, H.done⟩
    subst n0
    have HR := Lib.hid hR
    clear hR
    go_enter Try.func33, Try.ntmps33
    have H := HS.start NoD w
    go_upto_region 1 with fail
    generalize hwb : w.alloc _ = w1
    replace H := HS.eqW hwb H.alloc
    try simp only [World.size_alloc, List.nil_append, List.cons_append, List.append_assoc] at H
    clear hwb
    generalize w.heap.size = bX at H ⊢
    try clear C
    have C := H.cells
    try simp only [cellsOf, cellsM, apartOf, apartM, and_true] at C
    go_wp2_with fail
    go_ret
    exact ⟨by rw [HR.out]; first | rfl | (simp; done) | (simp; omega) | simp_all, H.done⟩
  have e5 : (k == 5) = false := beq_eq_false_iff_ne.2 k5
  by_cases k6 : k = 6
  · subst k6
    simp only [reduceIte, if_neg, if_pos, Int.reduceEq, or_true, true_or, or_false, false_or, or_self] at hR
    by_cases v0 : wd < 0
    · try rw [show b4 = false from hb4.trans (inB_f.2 (.inl v0))] at hR
      have v1 : ¬ (0 : Int) ≤ wd := by omega
      have w9 : (wd == 0) = false := beq_eq_false_iff_ne.2 (by omega)
      have w8 : ¬ wd = 0 := by omega
      have HR := Lib.hid hR
      clear hR
      go_enter Try.func33, Try.ntmps33
      have H := HS.start NoD w
      go_upto_region 1 with fail
      generalize hwb : w.alloc _ = w1
      replace H := HS.eqW hwb H.alloc
      try simp only [World.size_alloc, List.nil_append, List.cons_append, List.append_assoc] at H
      clear hwb
      generalize w.heap.size = bX at H ⊢
      try clear C
      have C := H.cells
      try simp only [cellsOf, cellsM, apartOf, apartM, and_true] at C
      go_wp2_with fail
      go_ret
      exact ⟨by rw [HR.out]; first | rfl | (simp; done) | (simp; omega) | simp_all, H.done⟩
    by_cases v1 : 3 < wd
    · try rw [show b4 = false from hb4.trans (inB_f.2 (.inr v1))] at hR
      have v2 : (0 : Int) ≤ wd := by omega
      have v3 : ¬ wd < 4 := by omega
      have w9 : (wd == 0) = false := beq_eq_false_iff_ne.2 (by omega)
      have w8 : ¬ wd = 0 := by omega
      have HR := Lib.hid hR
      clear hR
      go_enter Try.func33, Try.ntmps33
      have H := HS.start NoD w
      go_upto_region 1 with fail
      generalize hwb : w.alloc _ = w1
      replace H := HS.eqW hwb H.alloc
      try simp only [World.size_alloc, List.nil_append, List.cons_append, List.append_assoc] at H
      clear hwb
      generalize w.heap.size = bX at H ⊢
      try clear C
      have C := H.cells
      try simp only [cellsOf, cellsM, apartOf, apartM, and_true] at C
      go_wp2_with fail
      go_ret
      exact ⟨by rw [HR.out]; first | rfl | (simp; done) | (simp; omega) | simp_all, H.done⟩
    try rw [show b4 = true from hb4.trans (inB_t.2 (by omega))] at hR
    have v2 : (0 : Int) ≤ wd := by omega
    have v3 : wd < 4 := by omega
    clear v0 v1 hb4
    by_cases w0 : wd = 0
    case neg =>
      have w9 : (wd == 0) = false := beq_eq_false_iff_ne.2 w0
      have HR := Lib.hid hR
      clear hR
      go_enter Try.func33, Try.ntmps33
      have H := HS.start NoD w
      go_upto_region 1 with fail
      generalize hwb : w.alloc _ = w1
      replace H := HS.eqW hwb H.alloc
      try simp only [World.size_alloc, List.nil_append, List.cons_append, List.append_assoc] at H
      clear hwb
      generalize w.heap.size = bX at H ⊢
      try clear C
      have C := H.cells
      try simp only [cellsOf, cellsM, apartOf, apartM, and_true] at C
      go_wp2_with fail
      go_ret
      exact ⟨by rw [HR.out]; first | rfl | (simp; done) | (simp; omega) | simp_all, H.done⟩
    subst w0
    by_cases o0 : ot = 0
    case neg =>
      have o9 : (ot == 0) = false := beq_eq_false_iff_ne.2 o0
      have HR := Lib.hid hR
      clear hR
      go_enter Try.func33, Try.ntmps33
      have H := HS.start NoD w
      go_upto_region 1 with fail
      generalize hwb : w.alloc _ = w1
      replace H := HS.eqW hwb H.alloc
      try simp only [World.size_alloc, List.nil_append, List.cons_append, List.append_assoc] at H
      clear hwb
      generalize w.heap.size = bX at H ⊢
      try clear C
      have C := H.cells
      try simp only [cellsOf, cellsM, apartOf, apartM, and_true] at C
      go_wp2_with fail
      go_ret
      exact ⟨by rw [HR.out]; first | rfl | (simp; done) | (simp; omega) | simp_all, H.done⟩
    subst o0
    by_cases n0 : n = 0
    case neg =>
      have n9 : ((n : Int) == 0) = false := beq_eq_false_iff_ne.2 (by omega)
      have HR := Lib.hid hR
      clear hR
      go_enter Try.func33, Try.ntmps33
      have H := HS.start NoD w
      go_upto_region 1 with fail
      generalize hwb : w.alloc _ = w1
      replace H := HS.eqW hwb H.alloc
      try simp only [World.size_alloc, List.nil_append, List.cons_append, List.append_assoc] at H
      clear hwb
      generalize w.heap.size = bX at H ⊢
      try clear C
      have C := H.cells
      try simp only [cellsOf, cellsM, apartOf, apartM, and_true] at C
      go_wp2_with fail
      go_ret
      exact ⟨by rw [HR.out]; first | rfl | (simp; done) | (simp; omega) | simp_all, H.done⟩
    subst n0
    have HR := Lib.hid hR
    clear hR
    go_enter Try.func33, Try.ntmps33
    have H := HS.start NoD w
    go_upto_region 1 with fail
    generalize hwb : w.alloc _ = w1
    replace H := HS.eqW hwb H.alloc
    try simp only [World.size_alloc, List.nil_append, List.cons_append, List.append_assoc] at H
    clear hwb
    generalize w.heap.size = bX at H ⊢
    try clear C
    have C := H.cells
    try simp only [cellsOf, cellsM, apartOf, apartM, and_true] at C
    go_wp2_with fail
    go_ret
    exact ⟨by rw [HR.out]; first | rfl | (simp; done) | (simp; omega) | simp_all, H.done⟩
  have e6 : (k == 6) = false := beq_eq_false_iff_ne.2 k6
  by_cases k4 : k = 4
  · subst k4
    simp only [reduceIte, if_neg, if_pos, Int.reduceEq, or_true, true_or, or_false, false_or, or_self] at hR
    by_cases v0 : wd < 0
    · try rw [show b4 = false from hb4.trans (inB_f.2 (.inl v0))] at hR
      have v1 : ¬ (0 : Int) ≤ wd := by omega
      by_cases u0 : ot < 1
      case pos =>
        rw [show inB ot 1 999 = false from inB_f.2 (.inl u0)] at hR
        have u1 : ¬ (1 : Int) ≤ ot := by omega
        have HR := Lib.hid hR
        clear hR
        go_enter Try.func33, Try.ntmps33
        have H := HS.start NoD w
        go_upto_region 1 with fail
        generalize hwb : w.alloc _ = w1
        replace H := HS.eqW hwb H.alloc
        try simp only [World.size_alloc, List.nil_append, List.cons_append, List.append_assoc] at H
        clear hwb
        generalize w.heap.size = bX at H ⊢
        try clear C
        have C := H.cells
        try simp only [cellsOf, cellsM, apartOf, apartM, and_true] at C
        go_wp2_with fail
        go_ret
        exact ⟨by rw [HR.out]; first | rfl | (simp; done) | (simp; omega) | simp_all, H.done⟩
      by_cases u1 : 999 < ot
      case pos =>
        rw [show inB ot 1 999 = false from inB_f.2 (.inr u1)] at hR
        have u2 : (1 : Int) ≤ ot := by omega
        have u3 : ¬ ot ≤ (999 : Int) := by omega
        have HR := Lib.hid hR
        clear hR
        go_enter Try.func33, Try.ntmps33
        have H := HS.start NoD w
        go_upto_region 1 with fail
        generalize hwb : w.alloc _ = w1
        replace H := HS.eqW hwb H.alloc
        try simp only [World.size_alloc, List.nil_append, List.cons_append, List.append_assoc] at H
        clear hwb
        generalize w.heap.size = bX at H ⊢
        try clear C
        have C := H.cells
        try simp only [cellsOf, cellsM, apartOf, apartM, and_true] at C
        go_wp2_with fail
        go_ret
        exact ⟨by rw [HR.out]; first | rfl | (simp; done) | (simp; omega) | simp_all, H.done⟩
      rw [show inB ot 1 999 = true from inB_t.2 (by omega)] at hR
      have u2 : (1 : Int) ≤ ot := by omega
      have u3 : ot ≤ (999 : Int) := by omega
      clear u0 u1
      by_cases q0 : ¬ ot = p
      case neg =>
        have q9 := Classical.not_not.1 q0
        subst q9
        have HR := Lib.hid hR
        clear hR
        go_enter Try.func33, Try.ntmps33
        have H := HS.start NoD w
        go_upto_region 1 with fail
        generalize hwb : w.alloc _ = w1
        replace H := HS.eqW hwb H.alloc
        try simp only [World.size_alloc, List.nil_append, List.cons_append, List.append_assoc] at H
        clear hwb
        generalize w.heap.size = bX at H ⊢
        try clear C
        have C := H.cells
        try simp only [cellsOf, cellsM, apartOf, apartM, and_true] at C
        go_wp2_with fail
        go_ret
        exact ⟨by rw [HR.out]; first | rfl | (simp; done) | (simp; omega) | simp_all, H.done⟩
      have q9 : (ot == p) = false := beq_eq_false_iff_ne.2 q0
      by_cases g0 : g = 0
      case neg =>
        have g9 : (g == 0) = false := beq_eq_false_iff_ne.2 g0
        have HR := Lib.hid hR
        clear hR
        go_enter Try.func33, Try.ntmps33
        have H := HS.start NoD w
        go_upto_region 1 with fail
        generalize hwb : w.alloc _ = w1
        replace H := HS.eqW hwb H.alloc
        try simp only [World.size_alloc, List.nil_append, List.cons_append, List.append_assoc] at H
        clear hwb
        generalize w.heap.size = bX at H ⊢
        try clear C
        have C := H.cells
        try simp only [cellsOf, cellsM, apartOf, apartM, and_true] at C
        go_wp2_with fail
        go_ret
        exact ⟨by rw [HR.out]; first | rfl | (simp; done) | (simp; omega) | simp_all, H.done⟩
      subst g0
      have w9 : (wd == 0) = false := beq_eq_false_iff_ne.2 (by omega)
      have w8 : ¬ wd = 0 := by omega
      have HR := Lib.hid hR
      clear hR
      go_enter Try.func33, Try.ntmps33
      have H := HS.start NoD w
      go_upto_region 1 with fail
      generalize hwb : w.alloc _ = w1
      replace H := HS.eqW hwb H.alloc
      try simp only [World.size_alloc, List.nil_append, List.cons_append, List.append_assoc] at H
      clear hwb
      generalize w.heap.size = bX at H ⊢
      try clear C
      have C := H.cells
      try simp only [cellsOf, cellsM, apartOf, apartM, and_true] at C
      go_wp2_with fail
      go_ret
      exact ⟨by rw [HR.out]; first | rfl | (simp; done) | (simp; omega) | simp_all, H.done⟩
    by_cases v1 : 3 < wd
    · try rw [show b4 = false from hb4.trans (inB_f.2 (.inr v1))] at hR
      have v2 : (0 : Int) ≤ wd := by omega
      have v3 : ¬ wd < 4 := by omega
      by_cases u0 : ot < 1
      case pos =>
        rw [show inB ot 1 999 = false from inB_f.2 (.inl u0)] at hR
        have u1 : ¬ (1 : Int) ≤ ot := by omega
        have HR := Lib.hid hR
        clear hR
        go_enter Try.func33, Try.ntmps33
        have H := HS.start NoD w
        go_upto_region 1 with fail
        generalize hwb : w.alloc _ = w1
        replace H := HS.eqW hwb H.alloc
        try simp only [World.size_alloc, List.nil_append, List.cons_append, List.append_assoc] at H
        clear hwb
        generalize w.heap.size = bX at H ⊢
        try clear C
        have C := H.cells
        try simp only [cellsOf, cellsM, apartOf, apartM, and_true] at C
        go_wp2_with fail
        go_ret
        exact ⟨by rw [HR.out]; first | rfl | (simp; done) | (simp; omega) | simp_all, H.done⟩
      by_cases u1 : 999 < ot
      case pos =>
        rw [show inB ot 1 999 = false from inB_f.2 (.inr u1)] at hR
        have u2 : (1 : Int) ≤ ot := by omega
        have u3 : ¬ ot ≤ (999 : Int) := by omega
        have HR := Lib.hid hR
        clear hR
        go_enter Try.func33, Try.ntmps33
        have H := HS.start NoD w
        go_upto_region 1 with fail
        generalize hwb : w.alloc _ = w1
        replace H := HS.eqW hwb H.alloc
        try simp only [World.size_alloc, List.nil_append, List.cons_append, List.append_assoc] at H
        clear hwb
        generalize w.heap.size = bX at H ⊢
        try clear C
        have C := H.cells
        try simp only [cellsOf, cellsM, apartOf, apartM, and_true] at C
        go_wp2_with fail
        go_ret
        exact ⟨by rw [HR.out]; first | rfl | (simp; done) | (simp; omega) | simp_all, H.done⟩
      rw [show inB ot 1 999 = true from inB_t.2 (by omega)] at hR
      have u2 : (1 : Int) ≤ ot := by omega
      have u3 : ot ≤ (999 : Int) := by omega
      clear u0 u1
      by_cases q0 : ¬ ot = p
      case neg =>
        have q9 := Classical.not_not.1 q0
        subst q9
        have HR := Lib.hid hR
        clear hR
        go_enter Try.func33, Try.ntmps33
        have H := HS.start NoD w
        go_upto_region 1 with fail
        generalize hwb : w.alloc _ = w1
        replace H := HS.eqW hwb H.alloc
        try simp only [World.size_alloc, List.nil_append, List.cons_append, List.append_assoc] at H
        clear hwb
        generalize w.heap.size = bX at H ⊢
        try clear C
        have C := H.cells
        try simp only [cellsOf, cellsM, apartOf, apartM, and_true] at C
        go_wp2_with fail
        go_ret
        exact ⟨by rw [HR.out]; first | rfl | (simp; done) | (simp; omega) | simp_all, H.done⟩
      have q9 : (ot == p) = false := beq_eq_false_iff_ne.2 q0
      by_cases g0 : g = 0
      case neg =>
        have g9 : (g == 0) = false := beq_eq_false_iff_ne.2 g0
        have HR := Lib.hid hR
        clear hR
        go_enter Try.func33, Try.ntmps33
        have H := HS.start NoD w
        go_upto_region 1 with fail
        generalize hwb : w.alloc _ = w1
        replace H := HS.eqW hwb H.alloc
        try simp only [World.size_alloc, List.nil_append, List.cons_append, List.append_assoc] at H
        clear hwb
        generalize w.heap.size = bX at H ⊢
        try clear C
        have C := H.cells
        try simp only [cellsOf, cellsM, apartOf, apartM, and_true] at C
        go_wp2_with fail
        go_ret
        exact ⟨by rw [HR.out]; first | rfl | (simp; done) | (simp; omega) | simp_all, H.done⟩
      subst g0
      have w9 : (wd == 0) = false := beq_eq_false_iff_ne.2 (by omega)
      have w8 : ¬ wd = 0 := by omega
      have HR := Lib.hid hR
      clear hR
      go_enter Try.func33, Try.ntmps33
      have H := HS.start NoD w
      go_upto_region 1 with fail
      generalize hwb : w.alloc _ = w1
      replace H := HS.eqW hwb H.alloc
      try simp only [World.size_alloc, List.nil_append, List.cons_append, List.append_assoc] at H
      clear hwb
      generalize w.heap.size = bX at H ⊢
      try clear C
      have C := H.cells
      try simp only [cellsOf, cellsM, apartOf, apartM, and_true] at C
      go_wp2_with fail
      go_ret
      exact ⟨by rw [HR.out]; first | rfl | (simp; done) | (simp; omega) | simp_all, H.done⟩
    try rw [show b4 = true from hb4.trans (inB_t.2 (by omega))] at hR
    have v2 : (0 : Int) ≤ wd := by omega
    have v3 : wd < 4 := by omega
    clear v0 v1 hb4
    by_cases u0 : ot < 1
    case pos =>
      rw [show inB ot 1 999 = false from inB_f.2 (.inl u0)] at hR
      have u1 : ¬ (1 : Int) ≤ ot := by omega
      have HR := Lib.hid hR
      clear hR
      go_enter Try.func33, Try.ntmps33
      have H := HS.start NoD w
      go_upto_region 1 with fail
      generalize hwb : w.alloc _ = w1
      replace H := HS.eqW hwb H.alloc
      try simp only [World.size_alloc, List.nil_append, List.cons_append, List.append_assoc] at H
      clear hwb
      generalize w.heap.size = bX at H ⊢
      try clear C
      have C := H.cells
      try simp only [cellsOf, cellsM, apartOf, apartM, and_true] at C
      go_wp2_with fail
      go_ret
      exact ⟨by rw [HR.out]; first | rfl | (simp; done) | (simp; omega) | simp_all, H.done⟩
    by_cases u1 : 999 < ot
    case pos =>
      rw [show inB ot 1 999 = false from inB_f.2 (.inr u1)] at hR
      have u2 : (1 : Int) ≤ ot := by omega
      have u3 : ¬ ot ≤ (999 : Int) := by omega
      have HR := Lib.hid hR
      clear hR
      go_enter Try.func33, Try.ntmps33
      have H := HS.start NoD w
      go_upto_region 1 with fail
      generalize hwb : w.alloc _ = w1
      replace H := HS.eqW hwb H.alloc
      try simp only [World.size_alloc, List.nil_append, List.cons_append, List.append_assoc] at H
      clear hwb
      generalize w.heap.size = bX at H ⊢
      try clear C
      have C := H.cells
      try simp only [cellsOf, cellsM, apartOf, apartM, and_true] at C
      go_wp2_with fail
      go_ret
      exact ⟨by rw [HR.out]; first | rfl | (simp; done) | (simp; omega) | simp_all, H.done⟩
    rw [show inB ot 1 999 = true from inB_t.2 (by omega)] at hR
    have u2 : (1 : Int) ≤ ot := by omega
    have u3 : ot ≤ (999 : Int) := by omega
    clear u0 u1
    by_cases q0 : ¬ ot = p
    case neg =>
      have q9 := Classical.not_not.1 q0
      subst q9
      have HR := Lib.hid hR
      clear hR
      go_enter Try.func33, Try.ntmps33
      have H := HS.start NoD w
      go_upto_region 1 with fail
      generalize hwb : w.alloc _ = w1
      replace H := HS.eqW hwb H.alloc
      try simp only [World.size_alloc, List.nil_append, List.cons_append, List.append_assoc] at H
      clear hwb
      generalize w.heap.size = bX at H ⊢
      try clear C
      have C := H.cells
      try simp only [cellsOf, cellsM, apartOf, apartM, and_true] at C
      go_wp2_with fail
      go_ret
      exact ⟨by rw [HR.out]; first | rfl | (simp; done) | (simp; omega) | simp_all, H.done⟩
    have q9 : (ot == p) = false := beq_eq_false_iff_ne.2 q0
    by_cases g0 : g = 0
    case neg =>
      have g9 : (g == 0) = false := beq_eq_false_iff_ne.2 g0
      have HR := Lib.hid hR
      clear hR
      go_enter Try.func33, Try.ntmps33
      have H := HS.start NoD w
      go_upto_region 1 with fail
      generalize hwb : w.alloc _ = w1
      replace H := HS.eqW hwb H.alloc
      try simp only [World.size_alloc, List.nil_append, List.cons_append, List.append_assoc] at H
      clear hwb
      generalize w.heap.size = bX at H ⊢
      try clear C
      have C := H.cells
      try simp only [cellsOf, cellsM, apartOf, apartM, and_true] at C
      go_wp2_with fail
      go_ret
      exact ⟨by rw [HR.out]; first | rfl | (simp; done) | (simp; omega) | simp_all, H.done⟩
    subst g0
    by_cases w0 : wd = 0
    case neg =>
      have w9 : (wd == 0) = false := beq_eq_false_iff_ne.2 w0
      have HR := Lib.hid hR
      clear hR
      go_enter Try.func33, Try.ntmps33
      have H := HS.start NoD w
      go_upto_region 1 with fail
      generalize hwb : w.alloc _ = w1
      replace H := HS.eqW hwb H.alloc
      try simp only [World.size_alloc, List.nil_append, List.cons_append, List.append_assoc] at H
      clear hwb
      generalize w.heap.size = bX at H ⊢
      try clear C
      have C := H.cells
      try simp only [cellsOf, cellsM, apartOf, apartM, and_true] at C
      go_wp2_with fail
      go_ret
      exact ⟨by rw [HR.out]; first | rfl | (simp; done) | (simp; omega) | simp_all, H.done⟩
    subst w0
    by_cases n0 : n = 0
    case neg =>
      have n9 : ((n : Int) == 0) = false := beq_eq_false_iff_ne.2 (by omega)
      have HR := Lib.hid hR
      clear hR
      go_enter Try.func33, Try.ntmps33
      have H := HS.start NoD w
      go_upto_region 1 with fail
      generalize hwb : w.alloc _ = w1
      replace H := HS.eqW hwb H.alloc
      try simp only [World.size_alloc, List.nil_append, List.cons_append, List.append_assoc] at H
      clear hwb
      generalize w.heap.size = bX at H ⊢
      try clear C
      have C := H.cells
      try simp only [cellsOf, cellsM, apartOf, apartM, and_true] at C
      go_wp2_with fail
      go_ret
      exact ⟨by rw [HR.out]; first | rfl | (simp; done) | (simp; omega) | simp_all, H.done⟩
    subst n0
    have HR := Lib.hid hR
    clear hR
    go_enter Try.func33, Try.ntmps33
    have H := HS.start NoD w
    go_upto_region 1 with fail
    generalize hwb : w.alloc _ = w1
    replace H := HS.eqW hwb H.alloc
    try simp only [World.size_alloc, List.nil_append, List.cons_append, List.append_assoc] at H
    clear hwb
    generalize w.heap.size = bX at H ⊢
    try clear C
    have C := H.cells
    try simp only [cellsOf, cellsM, apartOf, apartM, and_true] at C
    go_wp2_with fail
    go_ret
    exact ⟨by rw [HR.out]; first | rfl | (simp; done) | (simp; omega) | simp_all, H.done⟩
  have e4 : (k == 4) = false := beq_eq_false_iff_ne.2 k4
  rw [if_neg k1, if_neg k2, if_neg (fun h => h.elim k3 (fun h => h.elim k5 k6)), if_neg k4] at hR
  by_cases v0 : wd < 0
  · try rw [show b4 = false from hb4.trans (inB_f.2 (.inl v0))] at hR
    have v1 : ¬ (0 : Int) ≤ wd := by omega
    have HR := Lib.hid hR
    clear hR
    go_enter Try.func33, Try.ntmps33
    have H := HS.start NoD w
    go_upto_region 1 with fail
    generalize hwb : w.alloc _ = w1
    replace H := HS.eqW hwb H.alloc
    try simp only [World.size_alloc, List.nil_append, List.cons_append, List.append_assoc] at H
    clear hwb
    generalize w.heap.size = bX at H ⊢
    try clear C
    have C := H.cells
    try simp only [cellsOf, cellsM, apartOf, apartM, and_true] at C
    go_wp2_with fail
    go_ret
    exact ⟨by rw [HR.out]; first | rfl | (simp; done) | (simp; omega) | simp_all, H.done⟩
  by_cases v1 : 3 < wd
  · try rw [show b4 = false from hb4.trans (inB_f.2 (.inr v1))] at hR
    have v2 : (0 : Int) ≤ wd := by omega
    have v3 : ¬ wd < 4 := by omega
    have HR := Lib.hid hR
    clear hR
    go_enter Try.func33, Try.ntmps33
    have H := HS.start NoD w
    go_upto_region 1 with fail
    generalize hwb : w.alloc _ = w1
    replace H := HS.eqW hwb H.alloc
    try simp only [World.size_alloc, List.nil_append, List.cons_append, List.append_assoc] at H
    clear hwb
    generalize w.heap.size = bX at H ⊢
    try clear C
    have C := H.cells
    try simp only [cellsOf, cellsM, apartOf, apartM, and_true] at C
    go_wp2_with fail
    go_ret
    exact ⟨by rw [HR.out]; first | rfl | (simp; done) | (simp; omega) | simp_all, H.done⟩
  try rw [show b4 = true from hb4.trans (inB_t.2 (by omega))] at hR
  have v2 : (0 : Int) ≤ wd := by omega
  have v3 : wd < 4 := by omega
  clear v0 v1 hb4
  have HR := Lib.hid hR
  clear hR
  go_enter Try.func33, Try.ntmps33
  have H := HS.start NoD w
  go_upto_region 1 with fail
  generalize hwb : w.alloc _ = w1
  replace H := HS.eqW hwb H.alloc
  try simp only [World.size_alloc, List.nil_append, List.cons_append, List.append_assoc] at H
  clear hwb
  generalize w.heap.size = bX at H ⊢
  try clear C
  have C := H.cells
  try simp only [cellsOf, cellsM, apartOf, apartM, and_true] at C
  go_wp2_with fail
  go_ret
  exact ⟨by rw [HR.out]; first | rfl | (simp; done) | (simp; omega) | simp_all, H.done⟩
end Go.Proofs.Ythpoanlmaafanaa
