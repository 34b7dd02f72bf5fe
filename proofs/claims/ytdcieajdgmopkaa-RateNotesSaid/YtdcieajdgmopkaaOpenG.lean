/- Gauges as an argument, opened. -/
import Derived.Test.YtdcieajdgmopkaaOpenR
import Derived.Test.YtdcieajdgmopkaaRate
import Derived.Test.YtdcieajdgmopkaaLawZ
namespace Go.Proofs.Ytdcieajdgmopkaa
set_option linter.unusedSimpArgs false
set_option linter.unusedVariables false
open Go.RowKit Go.WideShapes Go.ChangeShapes Go.ChangeAt
set_option maxRecDepth 100000

section
variable {H : Type} {enc : TypeId × Value → H} {w : World} {base : Nat} {sp : Nat → Bool} {held : Bool}
theorem kinds3 : ∀ {vs : List Value}, Kinds [.int .i64, .int .i64, .int .i64] vs → ∃ x, gC x = vs := by
  rintro vs ⟨a, _, -, rfl, b, _, -, rfl, c, _, -, rfl, h⟩
  rw [show _ = [] from h]
  exact ⟨⟨a, b, c⟩, rfl⟩
theorem open_gauges {r : Reach} {b0 : Nat} {v : Value} {d : DataW H} {ps : List MemPlace} (hval : Value.okWide Try.prog w r b0 24 v) (hd : DataW.Trod enc Try.prog w base sp held 24 v d ps) :
    ∃ (p l : Int) (sa : Option Addr) (c : Nat) (xs : List G3), v = vG p l (.slice sa xs.length c) ∧ xs.length ≤ c ∧ Lies w w.heap.size sa 3 xs.length (fun j => gC xs[j]!) := by
  obtain ⟨cs, rfl⟩ := okWide_agg (.inl ⟨_, Try.underlying24⟩) hval
  obtain ⟨fuel, hf⟩ := hd
  obtain ⟨xs, m, -, -, hl, hxl, hall⟩ := DataW.trod_struct Try.underlying24 hf
  have h0 := hall 0 _ rfl
  have h1 := hall 1 _ rfl
  have h2 := hall 2 _ rfl
  clear hall
  obtain ⟨x0, x1, x2, rfl⟩ : ∃ x0 x1 x2, xs = [x0, x1, x2] := by
    have h3 : xs.length = 3 := hxl
    match xs, h3 with
    | [a, b, c], _ => exact ⟨a, b, c, rfl⟩
  have z : Try.prog.cellsOf 24 = 3 := by kernel_rfl
  have z1 : Try.prog.cellsOf 3 = 1 := by kernel_rfl
  have z2 : Try.prog.cellsOf 22 = 1 := by kernel_rfl
  have hl3 : cs.toList.length = 3 := hl.trans z
  replace h0 : DataW.trod enc Try.prog w base sp held m 3 (List.take (Try.prog.cellsOf 3) (List.drop 0 cs.toList)) = some x0 := h0
  replace h1 : DataW.trod enc Try.prog w base sp held m 3 (List.take (Try.prog.cellsOf 3) (List.drop 1 cs.toList)) = some x1 := h1
  replace h2 : DataW.trod enc Try.prog w base sp held m 22 (List.take (Try.prog.cellsOf 22) (List.drop 2 cs.toList)) = some x2 := h2
  rw [z1] at h0
  rw [z1] at h1
  rw [z2] at h2
  obtain ⟨p, e0, -, -⟩ := DataW.trod_int (k := .i64) (by kernel_rfl) h0
  obtain ⟨l, e1, -, -⟩ := DataW.trod_int (k := .i64) (by kernel_rfl) h1
  obtain ⟨sa, c, ys, e2, hc, -, hlies⟩ := open_rows_lies (e := 33) (by kernel_rfl) [.int .i64, .int .i64, .int .i64] (by kernel_rfl) (by kernel_rfl) (by decide) gC (fun vs h => kinds3 h) h2
  refine ⟨p, l, sa, c, ys, ?_, hc, hlies⟩
  have hcs : cs.toList = [.int .i64 p, .int .i64 l, .slice sa ys.length c] := by
    generalize cs.toList = q at *
    match q, hl3 with
    | [c0, c1, c2], _ =>
      simp at e0 e1 e2
      subst e0 e1 e2
      rfl
  have : cs = #[.int .i64 p, .int .i64 l, .slice sa ys.length c] := by
    apply Array.toList_inj.1
    exact hcs
  rw [this]
end
end Go.Proofs.Ytdcieajdgmopkaa
