/- Operations of programs as an argument, opened. -/
import Derived.Test.YthpoanlmaafanaaOpenP
import Derived.Test.YthpoanlmaafanaaPgI
namespace Go.Proofs.Ythpoanlmaafanaa
set_option linter.unusedSimpArgs false
set_option linter.unusedVariables false
open Go.RowKit Go.WideShapes Go.ChangeShapes Go.ChangeAt
set_option maxRecDepth 100000

section
variable {H : Type} {enc : TypeId × Value → H} {w : World} {base : Nat} {sp : Nat → Bool} {held : Bool}
theorem open_byte1 {n : Nat} {vs : List Value} {x : DataW H × List MemPlace} (h : DataW.trod enc Try.prog w base sp held n 5 vs = some x) : ∃ a, bC a = vs ∧ True := by
  obtain ⟨p, e0, -, -⟩ := DataW.trod_int (k := .u8) (by kernel_rfl) h
  exact ⟨p, e0.symm, trivial⟩
theorem open_op {n : Nat} {vs : List Value} {x : DataW H × List MemPlace} (h : DataW.trod enc Try.prog w base sp held n 38 vs = some x) : ∃ q : Ox, oxC q = vs ∧ True := by
  obtain ⟨xs, m, -, -, hl, hxl, hall⟩ := DataW.trod_struct Try.underlying38 h
  have h0 := hall 0 _ rfl
  have h1 := hall 1 _ rfl
  have h2 := hall 2 _ rfl
  have h3 := hall 3 _ rfl
  have h4 := hall 4 _ rfl
  have h5 := hall 5 _ rfl
  clear hall
  obtain ⟨x0, x1, x2, x3, x4, x5, rfl⟩ : ∃ x0 x1 x2 x3 x4 x5, xs = [x0, x1, x2, x3, x4, x5] := by
    have h3 : xs.length = 6 := hxl
    match xs, h3 with
    | [a, b, c, d, e, f], _ => exact ⟨a, b, c, d, e, f, rfl⟩
  have z : Try.prog.cellsOf 38 = 6 := by kernel_rfl
  have z1 : Try.prog.cellsOf 3 = 1 := by kernel_rfl
  have z4 : Try.prog.cellsOf 36 = 1 := by kernel_rfl
  have hl6 : vs.length = 6 := hl.trans z
  replace h0 : DataW.trod enc Try.prog w base sp held m 3 (List.take (Try.prog.cellsOf 3) (List.drop 0 vs)) = some x0 := h0
  replace h1 : DataW.trod enc Try.prog w base sp held m 3 (List.take (Try.prog.cellsOf 3) (List.drop 1 vs)) = some x1 := h1
  replace h2 : DataW.trod enc Try.prog w base sp held m 3 (List.take (Try.prog.cellsOf 3) (List.drop 2 vs)) = some x2 := h2
  replace h3 : DataW.trod enc Try.prog w base sp held m 3 (List.take (Try.prog.cellsOf 3) (List.drop 3 vs)) = some x3 := h3
  replace h4 : DataW.trod enc Try.prog w base sp held m 3 (List.take (Try.prog.cellsOf 3) (List.drop 4 vs)) = some x4 := h4
  replace h5 : DataW.trod enc Try.prog w base sp held m 36 (List.take (Try.prog.cellsOf 36) (List.drop 5 vs)) = some x5 := h5
  rw [z1] at h0 h1 h2 h3 h4
  rw [z4] at h5
  obtain ⟨a0, e0, -, -⟩ := DataW.trod_int (k := .i64) (by kernel_rfl) h0
  obtain ⟨a1, e1, -, -⟩ := DataW.trod_int (k := .i64) (by kernel_rfl) h1
  obtain ⟨a2, e2, -, -⟩ := DataW.trod_int (k := .i64) (by kernel_rfl) h2
  obtain ⟨a3, e3, -, -⟩ := DataW.trod_int (k := .i64) (by kernel_rfl) h3
  obtain ⟨a4, e4, -, -⟩ := DataW.trod_int (k := .i64) (by kernel_rfl) h4
  obtain ⟨sa, c, ys, e5, hc, -, hlies, -⟩ := open_els (e := 5) (by kernel_rfl) (k := 1) (by kernel_rfl) (by decide) bC (fun _ => True) bC_len (fun n vs x h => open_byte1 h) h5
  refine ⟨⟨a0, a1, a2, a3, a4, sa, ys.length, c⟩, ?_, trivial⟩
  match vs, hl6 with
  | [c0, c1, c2, c3, c4, c5], _ =>
    simp at e0 e1 e2 e3 e4 e5
    subst e0 e1 e2 e3 e4 e5
    rfl
theorem open_ops {r : Reach} {b0 : Nat} {v : Value} {d : DataW H} {ps : List MemPlace} (hval : Value.okWide Try.prog w r b0 22 v) (hd : DataW.Trod enc Try.prog w base sp held 22 v d ps) : ∃ (sa : Option Addr) (c : Nat) (l : List Ox), v = .slice sa l.length c ∧ (l.length ≤ c ∧ (sa = none → c = 0)) ∧ l.length ≤ maxLen ∧ Lies w w.heap.size sa 6 l.length (fun j => oxC l[j]!) := by
  obtain ⟨a, len, cap, rfl⟩ := okWide_slice (e := 38) (by kernel_rfl) hval
  obtain ⟨fuel, hf⟩ := hd
  obtain ⟨sa, c, qs, e, hc, hm, hl, hx⟩ := open_els (e := 38) (by kernel_rfl) (k := 6) (by kernel_rfl) (by decide) oxC (fun q => True) oxC_len (fun n vs x h => open_op h) hf
  simp [Value.cells] at e
  obtain ⟨rfl, rfl, rfl⟩ := e
  exact ⟨_, _, qs, rfl, hc, Nat.le_trans hc.1 hm, hl⟩
end
end Go.Proofs.Ythpoanlmaafanaa
