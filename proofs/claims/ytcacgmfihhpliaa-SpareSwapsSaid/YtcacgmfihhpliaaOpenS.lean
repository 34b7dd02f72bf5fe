/- Spares as an argument, opened. -/
import Derived.Test.YtcacgmfihhpliaaOpenR
import Derived.Test.YtcacgmfihhpliaaSpare1
import Derived.Test.YtcacgmfihhpliaaLawZ
namespace Go.Proofs.Ytcacgmfihhpliaa
set_option linter.unusedSimpArgs false
set_option linter.unusedVariables false
open Go.RowKit Go.WideShapes Go.ChangeShapes Go.ChangeAt
set_option maxRecDepth 100000

section
variable {H : Type} {enc : TypeId × Value → H} {w : World} {base : Nat} {sp : Nat → Bool} {held : Bool}
theorem kinds6 : ∀ {vs : List Value}, Kinds [.int .i64, .int .i64, .int .i64, .int .i64, .int .i64, .int .i64] vs → ∃ a b c d e f, vs = [.int .i64 a, .int .i64 b, .int .i64 c, .int .i64 d, .int .i64 e, .int .i64 f] := by
  rintro vs ⟨a, _, -, rfl, b, _, -, rfl, c, _, -, rfl, d, _, -, rfl, e, _, -, rfl, f, _, -, rfl, h⟩
  rw [show _ = [] from h]
  exact ⟨a, b, c, d, e, f, rfl⟩
theorem kinds8 : ∀ {vs : List Value}, Kinds [.int .i64, .int .i64, .int .i64, .int .i64, .int .i64, .int .i64, .int .i64, .int .i64] vs → ∃ x, sC x = vs := by
  rintro vs ⟨a, _, -, rfl, b, _, -, rfl, c, _, -, rfl, d, _, -, rfl, e, _, -, rfl, f, _, -, rfl, g, _, -, rfl, k, _, -, rfl, h⟩
  rw [show _ = [] from h]
  exact ⟨⟨a, b, c, d, e, f, g, k⟩, rfl⟩
theorem open_spares {r : Reach} {b0 : Nat} {v : Value} {d : DataW H} {ps : List MemPlace} (hval : Value.okWide Try.prog w r b0 26 v) (hd : DataW.Trod enc Try.prog w base sp held 26 v d ps) :
    ∃ (a0 a1 a2 a3 a4 a5 n : Int) (sa : Option Addr) (c : Nat) (xs : List S8), v = vSp a0 a1 a2 a3 a4 a5 n (.slice sa xs.length c) ∧ xs.length ≤ c ∧ Lies w w.heap.size sa 8 xs.length (fun j => sC xs[j]!) := by
  obtain ⟨cs, rfl⟩ := okWide_agg (.inl ⟨_, Try.underlying26⟩) hval
  obtain ⟨fuel, hf⟩ := hd
  obtain ⟨xs, m, -, -, hl, hxl, hall⟩ := DataW.trod_struct Try.underlying26 hf
  have h0 := hall 0 _ rfl
  have h1 := hall 1 _ rfl
  have h2 := hall 2 _ rfl
  clear hall
  obtain ⟨x0, x1, x2, rfl⟩ : ∃ x0 x1 x2, xs = [x0, x1, x2] := by
    have h3 : xs.length = 3 := hxl
    match xs, h3 with
    | [a, b, c], _ => exact ⟨a, b, c, rfl⟩
  have z : Try.prog.cellsOf 26 = 8 := by kernel_rfl
  have z0 : Try.prog.cellsOf 23 = 6 := by kernel_rfl
  have z1 : Try.prog.cellsOf 3 = 1 := by kernel_rfl
  have z2 : Try.prog.cellsOf 24 = 1 := by kernel_rfl
  have hl8 : cs.toList.length = 8 := hl.trans z
  replace h0 : DataW.trod enc Try.prog w base sp held m 23 (List.take (Try.prog.cellsOf 23) (List.drop 0 cs.toList)) = some x0 := h0
  replace h1 : DataW.trod enc Try.prog w base sp held m 3 (List.take (Try.prog.cellsOf 3) (List.drop 6 cs.toList)) = some x1 := h1
  replace h2 : DataW.trod enc Try.prog w base sp held m 24 (List.take (Try.prog.cellsOf 24) (List.drop 7 cs.toList)) = some x2 := h2
  rw [z0] at h0
  rw [z1] at h1
  rw [z2] at h2
  have e0 := kinds_trod 8 m _ [.int .i64, .int .i64, .int .i64, .int .i64, .int .i64, .int .i64] _ _ (by kernel_rfl) (by kernel_rfl) h0
  obtain ⟨n, e1, -, -⟩ := DataW.trod_int (k := .i64) (by kernel_rfl) h1
  obtain ⟨sa, c, ys, e2, hc, -, hlies⟩ := open_rows_lies (e := 38) (by kernel_rfl) [.int .i64, .int .i64, .int .i64, .int .i64, .int .i64, .int .i64, .int .i64, .int .i64] (by kernel_rfl) (by kernel_rfl) (by decide) sC (fun vs h => kinds8 h) h2
  obtain ⟨a0, a1, a2, a3, a4, a5, e0⟩ := kinds6 e0
  refine ⟨a0, a1, a2, a3, a4, a5, n, sa, c, ys, ?_, hc, hlies⟩
  have hcs : cs.toList = [.int .i64 a0, .int .i64 a1, .int .i64 a2, .int .i64 a3, .int .i64 a4, .int .i64 a5, .int .i64 n, .slice sa ys.length c] := by
    generalize cs.toList = l at *
    match l, hl8 with
    | [c0, c1, c2, c3, c4, c5, c6, c7], _ =>
      simp at e0 e1 e2
      obtain ⟨rfl, rfl, rfl, rfl, rfl, rfl⟩ := e0
      subst e1 e2
      rfl
  have : cs = #[.int .i64 a0, .int .i64 a1, .int .i64 a2, .int .i64 a3, .int .i64 a4, .int .i64 a5, .int .i64 n, .slice sa ys.length c] := by
    apply Array.toList_inj.1
    exact hcs
  rw [this]
end
end Go.Proofs.Ytcacgmfihhpliaa
