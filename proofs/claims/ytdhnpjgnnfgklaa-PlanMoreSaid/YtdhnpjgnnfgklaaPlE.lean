/- Plan (chapter 39): how places, needs and plans lie in memory; places as keys of maps; the small functions of both packages. -/
import Derived.Test.YtdhnpjgnnfgklaaK7
import Derived.Test.YtdhnpjgnnfgklaaMapG
import Derived.Test.YtdhnpjgnnfgklaaK6
import Derived.Test.YtdhnpjgnnfgklaaK2
import Derived.Test.YtdhnpjgnnfgklaaKj
import Derived.Test.YtdhnpjgnnfgklaaApS
import Derived.Deep.RegionLaw
import Derived.Deep.RegionWith
import Derived.Shelf.SlicesG.Cmp
import Derived.Shelf.Lay
import Derived.Ground.SlgcProg
namespace Go.Proofs
open Go.Shelf
shelf_lay_g SlLaysC2.n5 Slgc 5 at Try 51 as Try.cmpInt
end Go.Proofs
namespace Go.Proofs.Ytdhnpjgnnfgklaa
set_option linter.unusedSimpArgs false
set_option linter.unusedVariables false
open Go.RowKit
set_option maxRecDepth 100000
attribute [local irreducible] wpX wpF Calls

def pC (p : P6) : List Value := [.int .i64 p.a, .int .i64 p.b, .int .i64 p.c, .int .i64 p.d, .int .i64 p.e, .int .i64 p.f]
theorem pC_len (p : P6) : (pC p).length = 6 := rfl
def kP (p : P6) : Value := v6 p.a p.b p.c p.d p.e p.f
def ndC (x : Nd) : List Value := [.int .i64 x.p.a, .int .i64 x.p.b, .int .i64 x.p.c, .int .i64 x.p.d, .int .i64 x.p.e, .int .i64 x.p.f, .int .i64 x.loss]
theorem ndC_len (x : Nd) : (ndC x).length = 7 := rfl
theorem ndC_one (xs : List Nd) : ∀ y ∈ xs.flatMap ndC, y.oneCell' = true := fun y hy => by
  obtain ⟨x, hx, h⟩ := List.mem_flatMap.1 hy
  simp only [ndC, List.mem_cons, List.mem_nil_iff, or_false] at h
  rcases h with rfl | rfl | rfl | rfl | rfl | rfl | rfl <;> rfl
theorem infoPl : (Try.prog.info? 39).map (fun i => (i.zero, i.size, i.bytes)) = some (some (v6 0 0 0 0 0 0), 6, 48) := by kernel_rfl
theorem elemPl : Elem Try.prog 33 39 (v6 0 0 0 0 0 0) 6 48 := Elem.mk' Try.underlying33 infoPl rfl (by decide)
theorem infoNd : (Try.prog.info? 41).map (fun i => (i.zero, i.size, i.bytes)) = some (some (.agg #[.int .i64 0, .int .i64 0, .int .i64 0, .int .i64 0, .int .i64 0, .int .i64 0, .int .i64 0]), 7, 56) := by kernel_rfl
theorem elemNd : Elem Try.prog 30 41 (.agg #[.int .i64 0, .int .i64 0, .int .i64 0, .int .i64 0, .int .i64 0, .int .i64 0, .int .i64 0]) 7 56 := Elem.mk' Try.underlying30 infoNd rfl (by decide)
theorem chkP (x : P6) (e : Bool) (w : World) : (Instr.checkKey e 10000 39 (kP x)).run Try.prog w = .ok () w := by
  kernel_rfl
theorem eqP (x y : P6) (w : World) : (Op.equal 39 (kP x) (kP y)).run Try.prog w = .ok (decide (x = y)) w := by
  obtain ⟨a, b, c, d, e, f⟩ := x
  obtain ⟨a', b', c', d', e', f'⟩ := y
  have h : (Op.equal 39 (kP ⟨a, b, c, d, e, f⟩) (kP ⟨a', b', c', d', e', f'⟩)).run Try.prog w = .ok (a == a' && (b == b' && (c == c' && (d == d' && (e == e' && f == f'))))) w := by
    show (Op.equalIn 10000 39 (.agg #[.int .i64 a, .int .i64 b, .int .i64 c, .int .i64 d, .int .i64 e, .int .i64 f]) (.agg #[.int .i64 a', .int .i64 b', .int .i64 c', .int .i64 d', .int .i64 e', .int .i64 f'])).run Try.prog w = .ok _ w
    go_simp
    by_cases h1 : a = a' <;> by_cases h2 : b = b' <;> by_cases h3 : c = c' <;> by_cases h4 : d = d' <;> by_cases h5 : e = e' <;> by_cases h6 : f = f' <;> simp [h1, h2, h3, h4, h5, h6]
  rw [h]
  congr 1
  rw [Bool.eq_iff_iff]
  simp [P6.mk.injEq]
theorem undP : ∃ d, Try.prog.underlying 39 = some d ∧ ((∀ x y, Instr.sameNow d (kP x) (kP y) = none) ∨ ∀ x y, Instr.sameNow d (kP x) (kP y) = some (decide (x = y))) := by
  refine ⟨_, Try.underlying39, .inl ?_⟩
  intro x y
  rfl
theorem keepP (x : P6) (w : World) : (Instr.keyThatStays (kP x) (kP x)).run Try.prog w = .ok (kP x) w := by
  obtain ⟨a, b, c, d, e, f⟩ := x
  simp [Instr.keyThatStays, kP, v6, Instr.sameBits]
theorem keyP : KeyOk Try.prog 39 kP := ⟨chkP, eqP, undP, keepP⟩

theorem eqlP6 (a b c d e f a' b' c' d' e' f' : Int) (w : World) : (binOp .eql 39 (v6 a b c d e f) (v6 a' b' c' d' e' f')).run Try.prog w = .ok (.bool (decide (a = a' ∧ b = b' ∧ c = c' ∧ d = d' ∧ e = e' ∧ f = f'))) w := by
  by_cases h0 : a = a'
  · by_cases h1 : b = b'
    · by_cases h2 : c = c'
      · by_cases h3 : d = d'
        · by_cases h4 : e = e'
          · by_cases h5 : f = f'
            · subst h0 h1 h2 h3 h4 h5; go_simp
            · go_simp
          · go_simp
        · go_simp
      · go_simp
    · go_simp
  · go_simp
theorem neqP6 (a b c d e f a' b' c' d' e' f' : Int) (w : World) : (binOp .neq 39 (v6 a b c d e f) (v6 a' b' c' d' e' f')).run Try.prog w = .ok (.bool (!decide (a = a' ∧ b = b' ∧ c = c' ∧ d = d' ∧ e = e' ∧ f = f'))) w := by
  by_cases h0 : a = a'
  · by_cases h1 : b = b'
    · by_cases h2 : c = c'
      · by_cases h3 : d = d'
        · by_cases h4 : e = e'
          · by_cases h5 : f = f'
            · subst h0 h1 h2 h3 h4 h5; go_simp
            · go_simp
          · go_simp
        · go_simp
      · go_simp
    · go_simp
  · go_simp
theorem eqlP (p q : P6) (w : World) : (binOp .eql 39 (kP p) (kP q)).run Try.prog w = .ok (.bool (decide (p = q))) w := by
  obtain ⟨a, b, c, d, e, f⟩ := p
  obtain ⟨a', b', c', d', e', f'⟩ := q
  refine (eqlP6 a b c d e f a' b' c' d' e' f' w).trans ?_
  rw [show decide ((⟨a, b, c, d, e, f⟩ : P6) = ⟨a', b', c', d', e', f'⟩) = decide (a = a' ∧ b = b' ∧ c = c' ∧ d = d' ∧ e = e' ∧ f = f') by simp only [P6.mk.injEq]]
theorem neqP (p q : P6) (w : World) : (binOp .neq 39 (kP p) (kP q)).run Try.prog w = .ok (.bool (!decide (p = q))) w := by
  obtain ⟨a, b, c, d, e, f⟩ := p
  obtain ⟨a', b', c', d', e', f'⟩ := q
  refine (neqP6 a b c d e f a' b' c' d' e' f' w).trans ?_
  rw [show decide ((⟨a, b, c, d, e, f⟩ : P6) = ⟨a', b', c', d', e', f'⟩) = decide (a = a' ∧ b = b' ∧ c = c' ∧ d = d' ∧ e = e' ∧ f = f') by simp only [P6.mk.injEq]]

/-! ### small functions -/
theorem few_any (n : Int) (w : World) : Calls Try.prog 24 #[.int .i64 n] w (Gives (.bool (decide (0 ≤ n ∧ n ≤ 12))) w) := by
  go_enter Try.func24, Try.ntmps24
  have H := HS.start NoD w
  by_cases h0 : 0 ≤ n
  · by_cases h1 : n ≤ 12
    · go_wp2_with fail
      go_ret
      exact ⟨by simp [h0, h1], H.done⟩
    · go_wp2_with fail
      go_ret
      exact ⟨by simp [h0, h1], H.done⟩
  · go_wp2_with fail
    go_ret
    exact ⟨by simp; omega, H.done⟩
theorem prank_any (p : P6) (w : World) : Calls Try.prog 25 #[kP p] w (Gives (kP (rankP p)) w) := by
  unfold kP
  go_enter Try.func25, Try.ntmps25
  have H := HS.start NoD w
  go_upto_region 1 with fail
  generalize hwb : (w.alloc _).alloc _ = w1
  replace H := HS.eqW hwb H.alloc.alloc
  try simp only [World.size_alloc, List.nil_append, List.cons_append, List.append_assoc] at H
  clear hwb
  generalize w.heap.size + 1 = bR at H ⊢
  generalize w.heap.size = bP at H ⊢
  try clear C
  have C := H.cells
  try simp only [cellsOf, cellsM, apartOf, apartM, and_true] at C
  go_wp2_with fail
  generalize hwb : (((((w1.setCell _ _).setCell _ _).setCell _ _).setCell _ _).setCell _ _).setCell _ _ = w2
  replace H := HS.eqW hwb (H.putAll (i := 1) rfl (vs := [.int .i64 p.a, .int .i64 p.b, .int .i64 p.c, .int .i64 0, .int .i64 0, .int .i64 0]) rfl rfl)
  simp only [List.nil_append, List.cons_append, List.append_assoc, List.set_cons_succ, List.set_cons_zero] at H
  clear hwb
  try clear C
  try clear w1
  have C := H.cells
  try simp only [cellsOf, cellsM, apartOf, apartM, and_true] at C
  refine bodyPost_ret (by simp [results, Try.results25, go_sem, C]; try rfl) rfl ?_
  exact ⟨rfl, H.done⟩
theorem pbank_any (p : P6) (w : World) : Calls Try.prog 47 #[kP p] w (Gives (kP (bankP p)) w) := by
  unfold kP
  go_enter Try.func47, Try.ntmps47
  have H := HS.start NoD w
  go_upto_region 1 with fail
  generalize hwb : (w.alloc _).alloc _ = w1
  replace H := HS.eqW hwb H.alloc.alloc
  try simp only [World.size_alloc, List.nil_append, List.cons_append, List.append_assoc] at H
  clear hwb
  generalize w.heap.size + 1 = bR at H ⊢
  generalize w.heap.size = bP at H ⊢
  try clear C
  have C := H.cells
  try simp only [cellsOf, cellsM, apartOf, apartM, and_true] at C
  go_wp2_with fail
  generalize hwb : (((((w1.setCell _ _).setCell _ _).setCell _ _).setCell _ _).setCell _ _).setCell _ _ = w2
  replace H := HS.eqW hwb (H.putAll (i := 1) rfl (vs := [.int .i64 p.a, .int .i64 p.b, .int .i64 p.c, .int .i64 p.d, .int .i64 0, .int .i64 0]) rfl rfl)
  simp only [List.nil_append, List.cons_append, List.append_assoc, List.set_cons_succ, List.set_cons_zero] at H
  clear hwb
  try clear C
  try clear w1
  have C := H.cells
  try simp only [cellsOf, cellsM, apartOf, apartM, and_true] at C
  refine bodyPost_ret (by simp [results, Try.results47, go_sem, C]; try rfl) rfl ?_
  exact ⟨rfl, H.done⟩
theorem pchan_any (p : P6) (w : World) : Calls Try.prog 30 #[kP p] w (Gives (kP (chanP p)) w) := by
  unfold kP
  go_enter Try.func30, Try.ntmps30
  have H := HS.start NoD w
  go_upto_region 1 with fail
  generalize hwb : (w.alloc _).alloc _ = w1
  replace H := HS.eqW hwb H.alloc.alloc
  try simp only [World.size_alloc, List.nil_append, List.cons_append, List.append_assoc] at H
  clear hwb
  generalize w.heap.size + 1 = bR at H ⊢
  generalize w.heap.size = bP at H ⊢
  try clear C
  have C := H.cells
  try simp only [cellsOf, cellsM, apartOf, apartM, and_true] at C
  go_wp2_with fail
  generalize hwb : (((((w1.setCell _ _).setCell _ _).setCell _ _).setCell _ _).setCell _ _).setCell _ _ = w2
  replace H := HS.eqW hwb (H.putAll (i := 1) rfl (vs := [.int .i64 p.a, .int .i64 p.b, .int .i64 0, .int .i64 0, .int .i64 0, .int .i64 0]) rfl rfl)
  simp only [List.nil_append, List.cons_append, List.append_assoc, List.set_cons_succ, List.set_cons_zero] at H
  clear hwb
  try clear C
  try clear w1
  have C := H.cells
  try simp only [cellsOf, cellsM, apartOf, apartM, and_true] at C
  refine bodyPost_ret (by simp [results, Try.results30, go_sem, C]; try rfl) rfl ?_
  exact ⟨rfl, H.done⟩
theorem rbank_any (p : P6) (w : World) : Calls Try.prog 14 #[kP p] w (Gives (kP (bankP p)) w) := by
  unfold kP
  go_enter Try.func14, Try.ntmps14
  have H := HS.start NoD w
  go_upto_region 1 with fail
  generalize hwb : (w.alloc _).alloc _ = w1
  replace H := HS.eqW hwb H.alloc.alloc
  try simp only [World.size_alloc, List.nil_append, List.cons_append, List.append_assoc] at H
  clear hwb
  generalize w.heap.size + 1 = bR at H ⊢
  generalize w.heap.size = bP at H ⊢
  try clear C
  have C := H.cells
  try simp only [cellsOf, cellsM, apartOf, apartM, and_true] at C
  go_wp2_with fail
  generalize hwb : (((((w1.setCell _ _).setCell _ _).setCell _ _).setCell _ _).setCell _ _).setCell _ _ = w2
  replace H := HS.eqW hwb (H.putAll (i := 1) rfl (vs := [.int .i64 p.a, .int .i64 p.b, .int .i64 p.c, .int .i64 p.d, .int .i64 0, .int .i64 0]) rfl rfl)
  simp only [List.nil_append, List.cons_append, List.append_assoc, List.set_cons_succ, List.set_cons_zero] at H
  clear hwb
  try clear C
  try clear w1
  have C := H.cells
  try simp only [cellsOf, cellsM, apartOf, apartM, and_true] at C
  refine bodyPost_ret (by simp [results, Try.results14, go_sem, C]; try rfl) rfl ?_
  exact ⟨rfl, H.done⟩
end Go.Proofs.Ytdhnpjgnnfgklaa
